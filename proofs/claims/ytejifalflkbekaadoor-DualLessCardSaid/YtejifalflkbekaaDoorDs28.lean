/-
  DualLess: the end.
-/
import Derived.Test.YtejifalflkbekaaDoorDs27
set_option maxRecDepth 100000
set_option linter.unusedSimpArgs false
set_option linter.unusedVariables false
namespace Go.Proofs.YtejifalflkbekaaDoor
open Go Go.Abs Go.Proofs.YtejifalflkbekaaDoor.Bs
theorem DualLess_abs {H : AH} {tv lv : Value} {L : List SetD} {T : List Bool} (hg : GroundA G H) (hT : SlV (fun b => b < H.next) H tv T) (hL : SlV (fun b => b < H.next) H lv L) : AFn Tryd.prog F_law18_DualLess [tv,lv] H fun u H' => u = .bool true ∧ H' = H:=by
 refine AFn.calm (fun H0 hs => ?_) rfl
 have hn0 : H0.next = H.next:=hs.1
 have hL0:=(hL.same hs).mono (q:=fun b => b < H0.next) fun b hb => by omega
 have hT0:=(hT.same hs).mono (q:=fun b => b < H0.next) fun b hb => by omega
 have hg0:=hg.same hs
 clear hL hT
 refine AFn.enter mixed ir_law18_DualLess_eq (by simp [ir_law18_DualLess]) fun hw => ?_
 have hcT:=hT0.cell
 have hcL:=hL0.cell
 obtain ⟨la,lc,rfl⟩:=hL0.slice
 simp (disch:=omega) [-getElem?_pos,if_pos,if_neg,decide_eq_true,decide_eq_false,ir_law18_DualLess,hcT.1,hcT.2]
 refine (lacks_spec hT0).mono' fun u H1 w1 ⟨sv,w,hu,hS,hW,k1⟩ => ?_
 subst hu
 have n1:=k1.next
 have hlen : (T.take 12).length ≤ 12:=by rw [List.length_take]; omega
 generalize T.take 12 = B at *
 obtain ⟨sl,rfl⟩:=setV hS
 obtain ⟨wa,wc,rfl⟩:=hW.slice
 obtain ⟨H2,hH2⟩ : ∃ H2,H2 = H1.alloc (.row [.int .i64 B.length,sl] T_bitset_Set true):=⟨_,rfl⟩
 have k2 : Keep [] H1 H2:=by rw [hH2]; exact .alloc
 have w2 : WF H2:=by rw [hH2]; exact w1.alloc
 have n2 : H2.next = H1.next + 1:=by rw [hH2]; rfl
 have r2 : H2.cells H1.next = some [.int .i64 B.length,sl]:=by rw [hH2]; exact AH.cells_alloc_new
 have k02:=k1.trans' k2
 have hS2 : SetB (fun b => b < H2.next) H2 (.agg #[.int .i64 B.length,sl]) B:=hS.up2 (fun b hb => by have:=hb.2; omega) (.kept w1 k2)
 have hone:=hS.one
 obtain ⟨m,zv,hmm,hm8,hmL,hsl,hZ,hZl⟩:=take8 (hL0.kept hw k02)
 have hcZ:=hZ.cell
 simp (disch:=omega) [-getElem?_pos,if_pos,if_neg,decide_eq_true,decide_eq_false,writeA,over,hone.1,hone.2,↓ieval_slhi,hmm]
 rw [← hH2]
 simp (disch:=omega) [-getElem?_pos,if_pos,if_neg,decide_eq_true,decide_eq_false,↓ieval_slhi,hmm,hsl]
 refine (sets_spec (sz:=(B.length : Int)) (hZ.mono fun b hb => by omega) (.inr ⟨B.length,rfl,hlen⟩)).mono' fun u H3 w3 ⟨a,b,M,hu,hA,hB,hMl,hMo,k3⟩ => ?_
 subst hu
 have hcA:=hA.cell
 have hcB:=hB.cell
 have n3:=k3.next
 have hM8 : M.length ≤ 8:=by omega
 have hMe : ∀ s ∈ M,s.elems.length ≤ 30:=fun s hs => (hMo s hs).1
 have hD : DOk B.length M:=sets_ok hMo (by omega)
 obtain ⟨f1,f2,f3⟩:=less_facts (B:=B) hD
 have hnl:=ndA_len (M:=M) (B:=B)
 have hel:=esA_len (M:=M) (B:=B)
 have r3:=cells_kept w2 k3 r2
 have hS3 : SetB (fun b => b < H3.next) H3 (.agg #[.int .i64 B.length,sl]) B:=hS2.up2 (fun b hb => by omega) (.kept w2 k3)
 have hA3:=hA.mono (q:=fun b => b < H3.next) fun b hb => hb.2
 have hg3:=hg0.kept hw (k02.trans' k3)
 simp (disch:=omega) [-getElem?_pos,if_pos,if_neg,decide_eq_true,decide_eq_false,r3,cut2v,hcA.1,hcA.2,hcB.1,hcB.2]
 refine AFnD.from (Needless_spec hS3 hA3 hlen (by omega) hMe) fun x H4 w4 ⟨hX,k4⟩ => ⟨k4.grow w3,?_⟩
 have n4:=k4.next
 have hcX:=hX.cell
 simp (disch:=omega) [-getElem?_pos,if_pos,if_neg,decide_eq_true,decide_eq_false,hcX.1,hcX.2]
 refine AFnD.from (Essential_spec (hS3.up2 (fun b hb => by omega) (.kept w3 k4)) ((hA3.kept w3 k4).mono fun b hb => by omega) hlen (by omega) hMe) fun y H5 w5 ⟨hY,k5⟩ => ⟨k5.grow w4,?_⟩
 have n5:=k5.next
 have k35:=k4.trans' k5
 have hcY:=hY.cell
 have hX5:=hX.kept w4 k5
 have hA5:=hA3.kept w3 k35
 have hS5:=hS3.kept' w3 k35
 have r5:=cells_kept w3 k35 r3
 have hg5:=hg3.kept w3 k35
 have hdl : dropN (ndA M B) < 2 ^ 8:=dropN_lt _ fun x hx => by
  obtain ⟨k,rfl,hk⟩:=f2 x hx; omega
 generalize ndA M B = X at *
 generalize esA M B = Y at *
 obtain ⟨xa,xc,rfl⟩:=hX.slice
 obtain ⟨ya,yc,rfl⟩:=hY.slice
 obtain ⟨aa,ac,rfl⟩:=hA.slice
 simp (disch:=omega) [-getElem?_pos,if_pos,if_neg,decide_eq_true,decide_eq_false,hcX.1,hcX.2,hcY.1,hcY.2]
 refine wpC_use (less_l4 (av:=.slice aa M.length ac) (xv:=.slice xa X.length xc) hA5 hX5 (by omega) hM8 f2 ?_) ?_
 ·exact ⟨by simp,by simp,by simp,by simp,by simp [dropN],rfl⟩
 rintro x env2 H6 ⟨rfl,g11,rfl⟩ hu
 have v5:=hu 5 (by decide)
 have v7:=hu 7 (by decide)
 have v10:=hu 10 (by decide)
 simp at v5 v7 v10
 clear hu
 have hshl:=i64_shl1 (k:=M.length) (by omega)
 generalize dropN X = D at *
 simp (disch:=omega) [-getElem?_pos,if_pos,if_neg,decide_eq_true,decide_eq_false,v7,↓hshl]
 refine wpC_use (less_l3 (H1:=H6) (r:=H1.next) (n:=B.length) (av:=.slice aa M.length ac) (yv:=.slice ya Y.length yc) (sl:=sl) (D:=D) (L:=M) (T:=B) (Y:=Y) w5 r5 (hS5.up2 (fun b hb => by omega) .refl) (hA5.mono fun b hb => by omega) (hY.mono fun b hb => hb.2) (by omega) hD hM8 hMe (by omega) f3 ?_) ?_
 ·exact ⟨by simp [v5],by simp [v7],by simp [v10],by simp [g11],by simp [bF],by simp [bF],by simp,by simp,w5,.refl⟩
 rintro x env3 H7 ⟨rfl,g14,g15,w7,k7⟩ _
 rw [f1] at g14
 simp (disch:=omega) [-getElem?_pos,if_pos,if_neg,decide_eq_true,decide_eq_false,]
 refine AFn.pure (wakes18_spec (hg5.kept w5 k7)) ?_
 simp (disch:=omega) [-getElem?_pos,if_pos,if_neg,decide_eq_true,decide_eq_false,g14,g15]
end Go.Proofs.YtejifalflkbekaaDoor
