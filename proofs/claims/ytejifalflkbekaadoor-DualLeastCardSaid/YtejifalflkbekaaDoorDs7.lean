/-
  package dual: Prices; DualPrices.
-/
import Derived.Test.YtejifalflkbekaaDoorDs6
import Derived.Test.YtejifalflkbekaaDoorWak18
set_option maxRecDepth 100000
set_option linter.unusedSimpArgs false
set_option linter.unusedVariables false
namespace Go.Proofs.YtejifalflkbekaaDoor
open Go Go.Abs Go.Proofs.YtejifalflkbekaaDoor.Bs
theorem Bs.SetB.kept' {p : Nat → Prop} {H H' : AH} {v : Value} {B : List Bool} (h : SetB p H v B) (hw : WF H) (hk : Keep [] H H') : SetB p H' v B:=h.up2 (fun _ h => h) (.kept hw hk)
theorem Prices_spec {H : AH} {sv lv : Value} {L : List SetD} {T : List Bool} (hg : GroundA G H) (hs : SetB (fun b => b < H.next) H sv T) (hL : SlV (fun b => b < H.next) H lv L) (hn : T.length ≤ 12) (hl : L.length ≤ 30) (hel : ∀ s ∈ L,s.elems.length ≤ 30) : AFn Tryd.prog F_dual_Prices [sv,lv] H (PrV H (prA L T)):=by
 obtain ⟨sl,rfl⟩:=setV hs
 obtain ⟨la,lc,rfl⟩:=hL.slice
 refine AFn.enter mixed ir_dual_Prices_eq (by simp [ir_dual_Prices]) fun hw => ?_
 obtain ⟨H1,hH1⟩ : ∃ H1,H1 = H.alloc (.row [.int .i64 T.length,sl] T_bitset_Set true):=⟨_,rfl⟩
 have k1 : Keep [] H H1:=by rw [hH1]; exact .alloc
 have w1 : WF H1:=by rw [hH1]; exact hw.alloc
 have n1 : H1.next = H.next + 1:=by rw [hH1]; rfl
 have c1 : H1.cells H.next = some [.int .i64 T.length,sl]:=by rw [hH1]; exact AH.cells_alloc_new
 have hs1:=hs.kept' hw k1
 have hL1:=hL.kept hw k1
 have hpa : prA L T = if mayD T.length L then prL L T.length (idxs T) else none:=rfl
 rw [hpa]
 simp (disch:=omega) [-getElem?_pos,if_pos,if_neg,decide_eq_true,decide_eq_false,ir_dual_Prices,hs.one.1,hs.one.2,cut2v]
 rw [← hH1]
 refine AFn.pure (Size_spec hs1) ?_
 simp (disch:=omega) [-getElem?_pos,if_pos,if_neg,decide_eq_true,decide_eq_false,]
 refine AFn.pure (may_spec (n:=(T.length : Int)) (by unfold I64; omega) hL1) ?_
 cases hm : mayD T.length L with
 | false =>
  simp (disch:=omega) [-getElem?_pos,if_pos,if_neg,decide_eq_true,decide_eq_false,]
  exact ⟨_,rfl,.nil,k1⟩
 | true =>
  have hD:=mayD_ok hm
  rw [if_pos rfl]
  simp (disch:=omega) [-getElem?_pos,if_pos,if_neg,decide_eq_true,decide_eq_false,c1,cut2v]
  refine AFn.pure (Size_spec hs1) ?_
  have hz:=rI_zero T.length
  have hz2:=mapI_zero L.length
  simp (disch:=omega) [-getElem?_pos,if_pos,if_neg,decide_eq_true,decide_eq_false,← hz,← hz2,writeA,over]
  obtain ⟨H2,hH2⟩ : ∃ H2,H2 = H1.alloc (.row (rI (List.replicate T.length 0)) T_int64 true):=⟨_,rfl⟩
  have k2 : Keep [] H1 H2:=by rw [hH2]; exact .alloc
  have w2 : WF H2:=by rw [hH2]; exact w1.alloc
  have n2 : H2.next = H1.next + 1:=by rw [hH2]; rfl
  have b2 : H2.blk H1.next = some (.row (rI (List.replicate T.length 0)) T_int64 true):=by rw [hH2]; exact AH.alloc_blk_new
  obtain ⟨H3,hH3⟩ : ∃ H3,H3 = H2.alloc (.row (rI (mapI (fun _ => 0) L.length)) T_int64 true):=⟨_,rfl⟩
  have k3 : Keep [] H2 H3:=by rw [hH3]; exact .alloc
  have w3 : WF H3:=by rw [hH3]; exact w2.alloc
  have n3 : H3.next = H2.next + 1:=by rw [hH3]; rfl
  have b3 : H3.blk H2.next = some (.row (rI (mapI (fun _ => 0) L.length)) T_int64 true):=by rw [hH3]; exact AH.alloc_blk_new
  obtain ⟨H4,hH4⟩ : ∃ H4,H4 = H3.alloc (.row [.slice (some ⟨H2.next,0,none⟩) L.length L.length] T_Lint64 true):=⟨_,rfl⟩
  have k4 : Keep [] H3 H4:=by rw [hH4]; exact .alloc
  have w4 : WF H4:=by rw [hH4]; exact w3.alloc
  have n4 : H4.next = H3.next + 1:=by rw [hH4]; rfl
  have b4 : H4.blk H3.next = some (.row [.slice (some ⟨H2.next,0,none⟩) L.length L.length] T_Lint64 true):=by rw [hH4]; exact AH.alloc_blk_new
  have k14 : Keep [] H1 H4:=k2.trans' (k3.trans' k4)
  have hL4:=(hL1.kept w1 k14)
  have b4l:=(k4.blk H2.next (by omega) (by simp)).trans b3
  have b4p:=((k3.trans' k4).blk H1.next (by omega) (by simp)).trans b2
  have e2 : H1.next + 1 = H2.next:=n2.symm
  have e3 : H2.next + 1 = H3.next:=n3.symm
  rw [← hH2,← hH3,e2,e3,AH.alloc_set,← hH4]
  have hq4:=AH.cells_of b4
  have hself : mapI (fun i => if i < 0 then lfN L [] i else 0) L.length = mapI (fun _ => 0) L.length:=mapI_congr fun j hj => by simp
  refine wpC_use (prices_l3 (H1:=H4) (q:=H3.next) (bl:=H2.next) (lv:=.slice la L.length lc) (L:=L) w4 (by omega) (by omega) hq4 (hL4.mono fun c hc => by omega) hl ⟨by simp,by simp,by simp,by simp,w4,.refl,by rw [hself]; exact b4l⟩) ?_
  rintro x env2 H5 ⟨rfl,w5,k5,b5l⟩ hu
  have u1:=hu 1 (by decide)
  have u2:=hu 2 (by decide)
  have u6:=hu 6 (by decide)
  have u7:=hu 7 (by decide)
  simp at u1 u2 u6 u7
  clear hu
  have n5:=k5.next
  have k45 : Keep [H2.next] H H5:=(k1.trans' k14).mono (by simp) |>.trans' k5
  have kH5 : Keep [] H H5:=⟨by omega,fun b hb _ => k45.blk b hb (by simp; omega)⟩
  have c5 : H5.cells H.next = some [.int .i64 T.length,sl]:=cells_keep w4 k5 (by simp; omega) (cells_kept w1 k14 c1)
  have hs5:=hs.kept' hw kH5
  have hg5:=hg.kept hw kH5
  simp (disch:=omega) [-getElem?_pos,if_pos,if_neg,decide_eq_true,decide_eq_false,u2,c5,cut2v]
  refine (List_spec hg5 hs5).mono' fun u H6 w6 ⟨S,hO,k6,hS⟩ => ?_
  have n6:=k6.next
  have hOn:=hO.lt w6
  have hIl : ∀ e ∈ idxs T,e < T.length:=fun e he => (idxs_mem.1 he).1
  have hIlen : (idxs T).length ≤ T.length:=idxTo_length T T.length
  have hOr : ((idxs T).map fun k => Value.int .i64 (k : Nat)) = rI ((idxs T).map fun (i : Nat) => (i : Int)):=by simp [rI]
  rw [hOr] at hO
  have hO' : Own H6 T_int 1 u ((idxs T).map fun (i : Nat) => (i : Int)).length (rI ((idxs T).map fun (i : Nat) => (i : Int))) S:=by rw [List.length_map]; exact hO
  have hI6 : SlV (fun c => c ≠ H1.next ∧ c ≠ H2.next) H6 u ((idxs T).map fun (i : Nat) => (i : Int)):=own_slv hO' (fun x hx => by
   obtain ⟨i,hi,rfl⟩:=List.mem_map.1 hx
   have:=hIl i hi
   unfold I64; omega) (fun c hc => by have:=hS c hc; omega) (by simp; omega)
  obtain ⟨ua,uc,hu6⟩:=hI6.slice
  rw [List.length_map] at hu6
  have b6l:=(k6.blk H2.next (by omega) (by simp)).trans b5l
  have b6p : H6.blk H1.next = some (.row (rI (List.replicate T.length 0)) T_int64 true):=by rw [k6.blk _ (by omega) (by simp),k5.blk _ (by omega) (by simp; omega)]; exact b4p
  have c6 : H6.cells H3.next = some [.slice (some ⟨H2.next,0,none⟩) L.length L.length]:=cells_kept w5 k6 (cells_keep w4 k5 (by simp; omega) hq4)
  have hL6 : SlV (fun c => c ≠ H1.next ∧ c ≠ H2.next) H6 (.slice la L.length lc) L:=((hL.kept hw (kH5.trans' k6)).mono fun c hc => by omega)
  have hl0 : mapI (lfN L []) L.length = mapI (lfN L (List.replicate T.length 0)) L.length:=mapI_congr fun j hj => by rw [lfN_eq hj,lfN_eq hj,spent_none,spent_zeros]
  rw [hl0] at b6l
  rw [hu6]
  rw [hu6] at hI6
  simp (disch:=omega) [-getElem?_pos,if_pos,if_neg,decide_eq_true,decide_eq_false,u1,u6,u7]
  refine wpC_use (prices_l2 (H1:=H6) (bp:=H1.next) (bl:=H2.next) (q:=H3.next) (n:=T.length) (lv:=.slice la L.length lc) (iv:=.slice ua (idxs T).length uc) (L:=L) (I:=idxs T) w6 (by omega) (by omega) (by omega) (by omega) (by omega) c6 hL6 hI6 (idxs_nodup T _) (by omega) hIl hn hD hl hel ⟨by simp [u1],by simp [u6],by simp [u7],by simp,by simp,by simp,_,⟨w6,.refl,b6p,b6l⟩,rfl⟩) ?_
  have hfin : ∀ H7 P,PmH H6 H7 H1.next H2.next L P → Keep [] H H7:=fun H7 P h => ⟨by have:=h.keep.next; omega,fun b hb _ => by rw [h.keep.blk b (by omega) (by simp; omega),k6.blk b (by omega) (by simp),kH5.blk b hb (by simp)]⟩
  rintro x env3 H7 (⟨rfl,f6,P,hP,hpr⟩ | ⟨rfl,f4,f5,⟨P,hP⟩,hpr⟩) _
  ·obtain ⟨hok,_⟩:=prL_ok hD (idxs T) (idxs_nodup T _) hIl P hpr
   have hPs:=slv_rI (H:=H7) (q:=H1.next) (X:=P) (AH.cells_of hP.p) (prOk_mem hok) (by rw [hok.len]; omega)
   rw [hok.len] at hPs
   have:=hP.keep.next
   simp (disch:=omega) [-getElem?_pos,if_pos,if_neg,decide_eq_true,decide_eq_false,f6]
   rw [hpr]
   exact ⟨_,rfl,hPs.mono fun c hc => ⟨by omega,by omega⟩,hfin _ _ hP⟩
  ·simp (disch:=omega) [-getElem?_pos,if_pos,if_neg,decide_eq_true,decide_eq_false,f4,f5]
   rw [hpr]
   exact ⟨_,rfl,.nil,hfin _ _ hP⟩
/-! ### DualPrices -/
end Go.Proofs.YtejifalflkbekaaDoor
