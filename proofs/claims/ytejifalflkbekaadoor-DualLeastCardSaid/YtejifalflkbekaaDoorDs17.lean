/-
  DualLeast: the end.
-/
import Derived.Test.YtejifalflkbekaaDoorDs16
set_option maxRecDepth 100000
set_option linter.unusedSimpArgs false
set_option linter.unusedVariables false
namespace Go.Abs
open Go Go.Proofs.YtejifalflkbekaaDoor.Bs
structure LeastF (M : List SetD) (B : List Bool) : Prop where
 same : (prA M B).isSome = (gdA M B).isSome
 bd : (prA M B).isSome = true → bdA M B ((prA M B).getD []) = true
 low : ∀ mask,(wipeM M B (msk mask) M.length).count true = 0 → (prA M B).isSome = true ∧ (if bdA M B ((prA M B).getD []) then ((prA M B).getD []).sum else 0) ≤ costM M (msk mask) M.length
 fnd : fnd M B (2 ^ M.length) = (prA M B).isSome
 all : (prA M B).isSome = true → (wipeL M B ((gdA M B).getD [])).count true = 0
 mem : ∀ a ∈ (gdA M B).getD [],∃ k : Nat,a = k ∧ k < M.length
theorem least_facts {M : List SetD} {B : List Bool} (hD : DOk B.length M) (hB : B.length ≤ 4096) : LeastF M B:=by
 have hm:=mayD_of hB hD
 have hp : prA M B = prL M B.length (idxs B):=by unfold prA; rw [hm]; rfl
 have hgd : gdA M B = (grD M B.length B []).map fun A => selK (inL A) M.length:=by unfold gdA; rw [hm]; rfl
 have h0 : ∀ s ∈ M,∀ e ∈ s.elems,0 ≤ e:=fun s hs e he => by have:=(rises_mem (hD.rise s hs) e he).1; omega
 have hpi:=pr_iff (L:=M) (n:=B.length) (T:=B)
 have hgi:=gr_iff (L:=M) (T:=B) h0
 have hfi:=fnd_iff (T:=B) hD
 have hbd : (prA M B).isSome = true → bdA M B ((prA M B).getD []) = true:=fun h => by
  rw [hp] at h ⊢
  cases hq : prL M B.length (idxs B) with
  | none => rw [hq] at h; cases h
  | some P =>
   obtain ⟨hok,hz⟩:=prL_ok hD (idxs B) (idxs_nodup B _) (fun e he => (idxs_mem.1 he).1) P hq
   show bdA M B P = true
   unfold bdA
   rw [hm,decide_eq_true hok.len,Bool.true_and,Bool.true_and,Bool.and_eq_true]
   refine ⟨List.all_eq_true.2 fun i hi => ?_,List.all_eq_true.2 fun s hs => decide_eq_true (by have:=hok.left s hs; omega)⟩
   have hpos:=hok.pos i
   unfold okP
   rw [decide_eq_true hpos.1,decide_eq_true hpos.2,Bool.true_and,Bool.true_and]
   by_cases hc : i ∈ idxs B
   ·rw [idxs_all.1 hc,Bool.or_true]
   ·rw [decide_eq_true (hz i hc),Bool.true_or]
 refine ⟨?_,hbd,fun mask hz => ?_,?_,fun h => ?_,fun a ha => ?_⟩
 ·rw [hp,hgd,Option.isSome_map,Bool.eq_iff_iff,hpi,hgi]
 ·have hc : Cov M B:=fun e he => by
   obtain ⟨i,hi,_,hb⟩:=(wipeM_zero hD).1 hz e he
   exact ⟨M[i],List.getElem_mem hi,hb⟩
  have hs : (prA M B).isSome = true:=by rw [hp]; exact hpi.2 hc
  refine ⟨hs,?_⟩
  rw [hbd hs,if_pos rfl]
  cases hq : prL M B.length (idxs B) with
  | none => rw [hp,hq] at hs; cases hs
  | some P =>
   rw [hp,hq]
   exact dual_least hD hq rfl hz
 ·rw [Bool.eq_iff_iff,hfi,hp,hpi]
 ·rw [hp] at h
  have:=hgi.2 (hpi.1 h)
  cases hq : grD M B.length B [] with
  | none => rw [hq] at this; cases this
  | some A =>
   rw [hgd,hq]
   exact taken_all hD hq
 ·rw [hgd] at ha
  cases hq : grD M B.length B [] with
  | none => rw [hq] at ha; simp at ha
  | some A =>
   rw [hq] at ha
   obtain ⟨i,h1,h2,_⟩:=selK_mem.1 ha
   exact ⟨i,h1,h2⟩
theorem gdA_len {M : List SetD} {B : List Bool} : ((gdA M B).getD []).length ≤ M.length:=by
 unfold gdA
 split
 ·cases grD M B.length B [] with
  | none => simp
  | some A => exact selK_len (inL A) M.length
 ·simp
end Go.Abs
namespace Go.Proofs.YtejifalflkbekaaDoor
open Go Go.Abs Go.Proofs.YtejifalflkbekaaDoor.Bs
theorem take8 {p : Nat → Prop} {H : AH} {v : Value} {L : List SetD} (h : SlV p H v L) : ∃ m w,(if (8 : Int) < (L.length : Int) then (8 : Int) else (L.length : Int)) = ((m : Nat) : Int) ∧ m ≤ 8 ∧ m ≤ L.length ∧ slA H 2 (some v) (some (.int .i64 (m : Nat))) = some (w,H) ∧ SlV p H w (L.take m) ∧ (L.take m).length = m:=by
 obtain ⟨m,hm⟩ : ∃ m : Nat,m = min L.length 8:=⟨_,rfl⟩
 obtain ⟨w,hsl,hW⟩:=h.sl (m:=m) (by omega)
 exact ⟨m,w,by split <;> omega,by omega,by omega,hsl,hW,by rw [List.length_take]; omega⟩
theorem sets_ok {n : Nat} {M : List SetD} (h : SetsOk (n : Int) M) (hl : M.length ≤ 4096) : DOk n M :=
 ⟨fun s hs => ((h s hs).2 (by omega)).2,fun s hs => ((h s hs).2 (by omega)).1,hl⟩
theorem DualLeast_abs {H : AH} {tv lv : Value} {L : List SetD} {T : List Bool} (hg : GroundA G H) (hT : SlV (fun b => b < H.next) H tv T) (hL : SlV (fun b => b < H.next) H lv L) : AFn Tryd.prog F_law18_DualLeast [tv,lv] H fun u H' => u = .bool true ∧ H' = H:=by
 refine AFn.calm (fun H0 hs => ?_) rfl
 have hn0 : H0.next = H.next:=hs.1
 have hL0:=(hL.same hs).mono (q:=fun b => b < H0.next) fun b hb => by omega
 have hT0:=(hT.same hs).mono (q:=fun b => b < H0.next) fun b hb => by omega
 have hg0:=hg.same hs
 clear hL hT
 refine AFn.enter mixed ir_law18_DualLeast_eq (by simp [ir_law18_DualLeast]) fun hw => ?_
 have hcT:=hT0.cell
 have hcL:=hL0.cell
 obtain ⟨la,lc,rfl⟩:=hL0.slice
 simp (disch:=omega) [-getElem?_pos,if_pos,if_neg,decide_eq_true,decide_eq_false,ir_law18_DualLeast,hcT.1,hcT.2]
 refine (lacks_spec hT0).mono' fun u H1 w1 ⟨sv,w,hu,hS,hW,k1⟩ => ?_
 subst hu
 have n1:=k1.next
 have hlen : (T.take 12).length ≤ 12:=by rw [List.length_take]; omega
 generalize T.take 12 = B at *
 obtain ⟨sl,rfl⟩:=setV hS
 obtain ⟨wa,wc,rfl⟩:=hW.slice
 obtain ⟨H2,hH2⟩ : ∃ H2,H2 = H1.alloc (.row [.int .i64 B.length,sl] T_bitset_Set true):=⟨_,rfl⟩
 have k2 : Keep [] H1 H2:=by rw [hH2]; exact .alloc
 have w2 : WF H2:=by rw [hH2]; exact w1.alloc
 have n2 : H2.next = H1.next + 1:=by rw [hH2]; rfl
 have r2 : H2.cells H1.next = some [.int .i64 B.length,sl]:=by rw [hH2]; exact AH.cells_alloc_new
 have k02:=k1.trans' k2
 have hS2 : SetB (fun b => b < H2.next) H2 (.agg #[.int .i64 B.length,sl]) B:=hS.up2 (fun b hb => by have:=hb.2; omega) (.kept w1 k2)
 have hone:=hS.one
 obtain ⟨m,zv,hmm,hm8,hmL,hsl,hZ,hZl⟩:=take8 (hL0.kept hw k02)
 have hcZ:=hZ.cell
 simp (disch:=omega) [-getElem?_pos,if_pos,if_neg,decide_eq_true,decide_eq_false,writeA,over,hone.1,hone.2,↓ieval_slhi,hmm]
 rw [← hH2]
 simp (disch:=omega) [-getElem?_pos,if_pos,if_neg,decide_eq_true,decide_eq_false,↓ieval_slhi,hmm,hsl]
 refine (sets_spec (sz:=(B.length : Int)) (hZ.mono fun b hb => by omega) (.inr ⟨B.length,rfl,hlen⟩)).mono' fun u H3 w3 ⟨a,b,M,hu,hA,hB,hMl,hMo,k3⟩ => ?_
 subst hu
 have hcA:=hA.cell
 have hcB:=hB.cell
 have n3:=k3.next
 have hM8 : M.length ≤ 8:=by omega
 have hMe : ∀ s ∈ M,s.elems.length ≤ 30:=fun s hs => (hMo s hs).1
 have hD : DOk B.length M:=sets_ok hMo (by omega)
 have hF:=least_facts hD (by omega)
 have hgl:=gdA_len (M:=M) (B:=B)
 have hpl:=prA_len (L:=M) (T:=B)
 have r3:=cells_kept w2 k3 r2
 have hS3 : SetB (fun b => b < H3.next) H3 (.agg #[.int .i64 B.length,sl]) B:=hS2.up2 (fun b hb => by omega) (.kept w2 k3)
 have hA3:=hA.mono (q:=fun b => b < H3.next) fun b hb => hb.2
 have hg3:=hg0.kept hw (k02.trans' k3)
 clear hsl hZ hcZ
 simp (disch:=omega) [-getElem?_pos,if_pos,if_neg,decide_eq_true,decide_eq_false,r3,cut2v,hcA.1,hcA.2,hcB.1,hcB.2]
 refine (Prices_spec hg3 hS3 hA3 hlen (by omega) hMe).mono' fun u H4 w4 ⟨pv,hu,hP,k4⟩ => ?_
 subst hu
 have hcP:=hP.cell
 have n4:=k4.next
 have r4:=cells_kept w3 k4 r3
 have hA4:=hA3.kept w3 k4
 have hS4:=hS3.kept' w3 k4
 have hbs:=Bound_spec (p:=fun b => b < H3.next) (p':=fun b => b < H3.next) hS4 hA4 hP hlen (by omega) (by omega) hMe
 obtain ⟨h1,h2,h3,h4,h5,h6⟩:=hF
 unfold bdV at hbs
 generalize hok : (prA M B).isSome = ok at *
 generalize (prA M B).getD [] = P at *
 generalize hbb : bdA M B P = bb at *
 generalize hnn : (if bb = true then P.sum else 0) = nn at *
 simp (disch:=omega) [-getElem?_pos,if_pos,if_neg,decide_eq_true,decide_eq_false,r4,cut2v,hcA.1,hcA.2,hcP.1,hcP.2]
 refine AFn.pure hbs ?_
 simp (disch:=omega) [-getElem?_pos,if_pos,if_neg,decide_eq_true,decide_eq_false,r4,cut2v,hcA.1,hcA.2]
 refine (Greedy_spec (hS4.up2 (fun b hb => by omega) .refl) (hA4.mono fun b hb => by omega) hlen (by omega) hMe).mono' fun u H5 w5 ⟨gv,hu,hGv,k5⟩ => ?_
 subst hu
 rw [← h1]
 have hcG:=hGv.cell
 have n5:=k5.next
 have r5:=cells_kept w4 k5 r4
 have hA5:=hA4.kept w4 k5
 have hS5:=hS4.kept' w4 k5
 generalize (gdA M B).getD [] = X at *
 obtain ⟨ga,gc,rfl⟩:=hGv.slice
 obtain ⟨aa,ac,rfl⟩:=hA.slice
 simp (disch:=omega) [-getElem?_pos,if_pos,if_neg,decide_eq_true,decide_eq_false,hcG.1,hcG.2]
 refine AFn.pure (wakes18_spec ((hg3.kept w3 k4).kept w4 k5)) ?_
 have hshl:=i64_shl1 (k:=M.length) (by omega)
 have hbok : ok = true → bb = true:=h2
 cases hokc : ok with
 | true =>
  subst hokc
  have hb1:=hbok rfl
  rw [hb1] at *
  simp (disch:=omega) [-getElem?_pos,if_pos,if_neg,decide_eq_true,decide_eq_false,↓hshl]
  refine wpC_use (least_l4 (H1:=H5) (r:=H1.next) (n:=B.length) (av:=.slice aa M.length ac) (gv:=.slice ga X.length gc) (sl:=sl) (ok:=true) (nn:=nn) (L:=M) (T:=B) w5 r5 (hS5.up2 (fun b hb => by omega) .refl) (hA5.mono fun b hb => by omega) hD hM8 hMe h3 ?_) ?_
  ·exact ⟨by simp,by simp,by simp,by simp,by simp,by simp [fnd],by simp,by simp,w5,.refl⟩
  rintro x env2 H6 ⟨rfl,f5,f7,f10,f11,f13,f15,f79,f80,w6,k6⟩ _
  rw [h4] at f15
  have n6:=k6.next
  have r6:=cells_kept w5 k6 r5
  obtain ⟨H7,hH7⟩ : ∃ H7,H7 = H6.alloc (.row [.int .i64 B.length,sl] T_bitset_Set true):=⟨_,rfl⟩
  have k7 : Keep [] H6 H7:=by rw [hH7]; exact .alloc
  have w7 : WF H7:=by rw [hH7]; exact w6.alloc
  have n7 : H7.next = H6.next + 1:=by rw [hH7]; rfl
  have b7 : H7.blk H6.next = some (.row [.int .i64 B.length,sl] T_bitset_Set true):=by rw [hH7]; exact AH.alloc_blk_new
  have k57:=k6.trans' k7
  have hset : SetAt H7 H6.next [] B:=⟨sl,b7,(hS5.kept' w5 k57).up2 (fun b hb => ⟨by omega,by simp⟩) .refl⟩
  simp (disch:=omega) [-getElem?_pos,if_pos,if_neg,decide_eq_true,decide_eq_false,f5,f13,r6,writeA,over,cut2v,hone.1,hone.2]
  rw [← hH7]
  refine wpC_use (least_l1 (H1:=H7) (q:=H6.next) (av:=.slice aa M.length ac) (gv:=.slice ga X.length gc) (L:=M) (T:=B) (X:=X) (by omega) w7 ((hA5.kept w5 k57).mono fun b hb => by omega) (((hGv.kept w5 k57)).mono fun b hb => by omega) (by omega) hM8 hMe h6 ?_) ?_
  ·exact ⟨by simp [f7],by simp,by simp,by simp,by simp,w7,.refl,hset⟩
  rintro x env3 H8 ⟨rfl,g23,w8,k8,sl8,b8,hs8⟩ hu
  have v10:=hu 10 (by decide)
  have v15:=hu 15 (by decide)
  simp [f10,f15] at v10 v15
  have hcnt:=Count_spec hs8
  rw [h5 rfl] at hcnt
  simp (disch:=omega) [-getElem?_pos,if_pos,if_neg,decide_eq_true,decide_eq_false,v10,v15,g23,AH.cells_of b8,cut2v]
  refine AFn.pure hcnt ?_
  simp (disch:=omega) [-getElem?_pos,if_pos,if_neg,decide_eq_true,decide_eq_false,]
 | false =>
  subst hokc
  simp (disch:=omega) [-getElem?_pos,if_pos,if_neg,decide_eq_true,decide_eq_false,↓hshl]
  refine wpC_use (least_l4 (H1:=H5) (r:=H1.next) (n:=B.length) (av:=.slice aa M.length ac) (gv:=.slice ga X.length gc) (sl:=sl) (ok:=false) (nn:=nn) (L:=M) (T:=B) w5 r5 (hS5.up2 (fun b hb => by omega) .refl) (hA5.mono fun b hb => by omega) hD hM8 hMe h3 ?_) ?_
  ·exact ⟨by simp,by simp,by simp,by simp,by simp,by simp [fnd],by simp,by simp,w5,.refl⟩
  rintro x env2 H6 ⟨rfl,f5,f7,f10,f11,f13,f15,f79,f80,w6,k6⟩ _
  rw [h4] at f15
  have n6:=k6.next
  have r6:=cells_kept w5 k6 r5
  obtain ⟨H7,hH7⟩ : ∃ H7,H7 = H6.alloc (.row [.int .i64 B.length,sl] T_bitset_Set true):=⟨_,rfl⟩
  have k7 : Keep [] H6 H7:=by rw [hH7]; exact .alloc
  have w7 : WF H7:=by rw [hH7]; exact w6.alloc
  have n7 : H7.next = H6.next + 1:=by rw [hH7]; rfl
  have b7 : H7.blk H6.next = some (.row [.int .i64 B.length,sl] T_bitset_Set true):=by rw [hH7]; exact AH.alloc_blk_new
  have k57:=k6.trans' k7
  have hset : SetAt H7 H6.next [] B:=⟨sl,b7,(hS5.kept' w5 k57).up2 (fun b hb => ⟨by omega,by simp⟩) .refl⟩
  simp (disch:=omega) [-getElem?_pos,if_pos,if_neg,decide_eq_true,decide_eq_false,f5,f13,r6,writeA,over,cut2v,hone.1,hone.2]
  rw [← hH7]
  refine wpC_use (least_l1 (H1:=H7) (q:=H6.next) (av:=.slice aa M.length ac) (gv:=.slice ga X.length gc) (L:=M) (T:=B) (X:=X) (by omega) w7 ((hA5.kept w5 k57).mono fun b hb => by omega) (((hGv.kept w5 k57)).mono fun b hb => by omega) (by omega) hM8 hMe h6 ?_) ?_
  ·exact ⟨by simp [f7],by simp,by simp,by simp,by simp,w7,.refl,hset⟩
  rintro x env3 H8 ⟨rfl,g23,w8,k8,sl8,b8,hs8⟩ hu
  have v10:=hu 10 (by decide)
  have v15:=hu 15 (by decide)
  simp [f10,f15] at v10 v15
  simp (disch:=omega) [-getElem?_pos,if_pos,if_neg,decide_eq_true,decide_eq_false,v10,v15]
end Go.Proofs.YtejifalflkbekaaDoor
