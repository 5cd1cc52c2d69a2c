/-
  The library's stable sort of places, by a closure (4): two runs are merged; the order of worth.
-/
import Derived.Test.YtllfcbacpoaphaaKn4
set_option maxRecDepth 100000
set_option linter.unusedSimpArgs false
set_option linter.unusedVariables false
namespace Go.Proofs.Ytllfcbacpoaphaa
open Go Go.Abs
theorem MgC.sw {H0 : AH} {q b n lo hi : Nat} {L : List (Int × Int)} {X M : List Int} (h : MgC H0 q b n L X) (hs : SwR lo hi X M) : MgC H0 q b n L M:=⟨by rw [hs.length]; exact h.len,h.n5,h.c,h.pl.sw hs,h.w⟩
theorem cut_of {L : List (Int × Int)} {X : List Int} {lo m hi mid s0 r0 s : Nat} (hlm : lo < m ∧ m < hi) (hmid : mid = (lo + hi) / 2) (hsr : (mid < m ∧ s0 = mid + m - hi ∧ r0 = mid) ∨ (m ≤ mid ∧ s0 = lo ∧ r0 = m))
  (hI : SchI (fun c => !(ahB L (gI X (mid + m - 1 - c)) (gI X c))) s0 r0 s s) : CutR (ahB L) X lo m hi mid s (mid + m - s):=by
 have hb:=hI.bd
 refine ⟨by omega,by omega,by omega,fun h1 h2 => ?_,fun h1 h2 => ?_⟩
 ·have:=hI.hi s (Nat.le_refl _) (by omega)
  simp only [Bool.not_eq_false'] at this
  rw [show mid + m - s - 1 = mid + m - 1 - s by omega]; exact this
 ·have:=hI.lo (s - 1) (by omega) (by omega)
  simp only [Bool.not_eq_true'] at this
  rw [show mid + m - s = mid + m - 1 - (s - 1) by omega]; exact this
def hdC : ACode → ACode
 | .seq a _ => a
 | c => c
def tlC : ACode → ACode
 | .seq _ b => b
 | c => c
def smC : ACode:=ir_slices_symMergeCmpFunc_int.code
def smT : ACode:=(tlC (tlC (tlC (tlC (tlC (tlC (tlC (tlC (tlC (tlC smC))))))))))
def smR : ACode:=tlC smT
def smM : ACode:=(tlC (tlC (tlC (tlC (tlC (tlC (tlC (tlC smC))))))))
theorem sm_eq : ir_slices_symMergeCmpFunc_int = ⟨220,[],.seq (hdC smC) (.seq (hdC (tlC smC)) (.seq (hdC (tlC (tlC smC))) (.seq (hdC (tlC (tlC (tlC smC)))) (.seq (hdC (tlC (tlC (tlC (tlC smC))))) (.seq (hdC (tlC (tlC (tlC (tlC (tlC smC)))))) (.seq (hdC (tlC (tlC (tlC (tlC (tlC (tlC smC))))))) (.seq (hdC (tlC (tlC (tlC (tlC (tlC (tlC (tlC smC)))))))) smM)))))))⟩:=rfl
theorem smM_eq : smM = .seq (hdC smM) (.seq (hdC (tlC smM)) smT):=rfl
theorem smT_eq : smT = .seq (hdC smT) smR:=rfl
def MgAll (N : Nat) : Prop:=∀ {H0 : AH} {q b n lo m hi : Nat} {L : List (Int × Int)} {X : List Int},hi - lo ≤ N → MgC H0 q b n L X → lo < m → m < hi → hi ≤ n → SrtR (ahB L) X lo m → SrtR (ahB L) X m hi → RunR X lo m hi →
  AFn Try.prog F_slices_symMergeCmpFunc_int [.slice (some ⟨b,0,none⟩) n n,.int .i64 (lo : Nat),.int .i64 (m : Nat),.int .i64 (hi : Nat),ordC q] (dH H0 b X) (SrtQ H0 b lo hi L X)
theorem sm_right {N : Nat} (ih : MgAll N) {H0 : AH} {q b n lo mid e hi : Nat} {L : List (Int × Int)} {X M : List Int} (hC : MgC H0 q b n L X) (hN : hi - mid ≤ N) (hlm : lo ≤ mid) (hme : mid ≤ e) (heh : e ≤ hi) (hh : hi ≤ n)
  (hS : SwR lo hi X M) (g1 : SrtR (ahB L) M lo mid) (g2 : SrtR (ahB L) M mid e) (g3 : SrtR (ahB L) M e hi) (g4 : RunR M mid e hi) (g5 : ∀ p q,lo ≤ p → p < mid → mid ≤ q → q < hi → ahB L (gI M q) (gI M p) = false)
  {env : Env} (f0 : env 0 = some (.slice (some ⟨b,0,none⟩) n n)) (f3 : env 3 = some (.int .i64 (hi : Nat))) (f4 : env 4 = some (ordC q)) (f18 : env 18 = some (.int .i64 (mid : Nat))) (f24 : env 24 = some (.int .i64 (e : Nat))) :
  wpC Try.prog 220 smR (bodyK [] (SrtQ H0 b lo hi L X)) env (dH H0 b M):=by
 have hC2:=hC.sw hS
 unfold ordC at f4
 by_cases h1 : mid < e
 ·have h1' : (mid : Int) < (e : Int):=by omega
  by_cases h2 : e < hi
  ·have h2' : (e : Int) < (hi : Int):=by omega
   have ih2:=ih hN hC2 h1 h2 hh g2 g3 g4
   unfold ordC at ih2
   simp (disch:=omega) [-getElem?_pos,if_pos,if_neg,decide_eq_true,decide_eq_false,smR,smT,smC,tlC,ir_slices_symMergeCmpFunc_int,f0,f3,f4,f18,f24,h1',h2']
   refine ih2.mono' fun u H5 w5 ⟨M3,hH5,hS3,k1⟩ => ?_
   subst hH5
   simp (disch:=omega) [-getElem?_pos,if_pos,if_neg,decide_eq_true,decide_eq_false,]
   exact ⟨M3,rfl,hS.trans (hS3.mono hlm (Nat.le_refl hi)),join_halves (M:=M3) (g1.of fun i i1 i2 => hS3.out (.inl i2)) k1 (SwR.between (R:=fun x y => ahB L y x = false) g5 (.inr hS3))⟩
  ·have h2' : ¬ (e : Int) < (hi : Int):=by omega
   obtain rfl : e = hi:=by omega
   simp (disch:=omega) [-getElem?_pos,if_pos,if_neg,decide_eq_true,decide_eq_false,smR,smT,smC,tlC,ir_slices_symMergeCmpFunc_int,f0,f3,f4,f18,f24,h1',h2']
   exact ⟨M,rfl,hS,join_halves (M:=X) g1 g2 g5⟩
 ·have h1' : ¬ (mid : Int) < (e : Int):=by omega
  obtain rfl : e = mid:=by omega
  simp (disch:=omega) [-getElem?_pos,if_pos,if_neg,decide_eq_true,decide_eq_false,smR,smT,smC,tlC,ir_slices_symMergeCmpFunc_int,f0,f3,f4,f18,f24,h1']
  exact ⟨M,rfl,hS,join_halves (M:=X) g1 g3 g5⟩
theorem sm_left {N : Nat} (ih : MgAll N) {H0 : AH} {q b n lo mid s e hi : Nat} {L : List (Int × Int)} {X M : List Int} (hC : MgC H0 q b n L X) (hN : hi - mid ≤ N) (hN2 : mid - lo ≤ N) (hls : lo ≤ s) (hsm : s ≤ mid) (hme : mid ≤ e) (heh : e ≤ hi) (hh : hi ≤ n)
  (hS : SwR lo hi X M) (a1 : SrtR (ahB L) M lo s) (a2 : SrtR (ahB L) M s mid) (a3 : RunR M lo s mid) (g2 : SrtR (ahB L) M mid e) (g3 : SrtR (ahB L) M e hi) (g4 : RunR M mid e hi) (g5 : ∀ p q,lo ≤ p → p < mid → mid ≤ q → q < hi → ahB L (gI M q) (gI M p) = false)
  {env : Env} (f0 : env 0 = some (.slice (some ⟨b,0,none⟩) n n)) (f1 : env 1 = some (.int .i64 (lo : Nat))) (f20 : env 20 = some (.int .i64 (s : Nat))) (f3 : env 3 = some (.int .i64 (hi : Nat))) (f4 : env 4 = some (ordC q)) (f18 : env 18 = some (.int .i64 (mid : Nat))) (f24 : env 24 = some (.int .i64 (e : Nat))) :
  wpC Try.prog 220 smT (bodyK [] (SrtQ H0 b lo hi L X)) env (dH H0 b M):=by
 have hC1:=hC.sw hS
 have hc0 : one (ordC q) = true:=rfl
 rw [smT_eq]
 unfold ordC at f4
 by_cases h1 : lo < s
 ·have h1' : (lo : Int) < (s : Int):=by omega
  by_cases h2 : s < mid
  ·have h2' : (s : Int) < (mid : Int):=by omega
   have ih1:=ih hN2 hC1 h1 h2 (by omega) a1 a2 a3
   unfold ordC at ih1
   simp (disch:=omega) [-getElem?_pos,if_pos,if_neg,decide_eq_true,decide_eq_false,hdC,smT,smC,tlC,ir_slices_symMergeCmpFunc_int,f0,f1,f3,f4,f18,f20,f24,h1',h2']
   refine ih1.mono' fun u H4 w4 ⟨M2,hH4,hS2,g1⟩ => ?_
   subst hH4
   simp (disch:=omega) [-getElem?_pos,if_pos,if_neg,decide_eq_true,decide_eq_false,]
   exact sm_right ih hC hN (by omega) hme heh hh (hS.trans (hS2.mono (Nat.le_refl lo) (by omega))) g1 (g2.of fun i i1 i2 => hS2.out (.inr i1)) (g3.of fun i i1 i2 => hS2.out (.inr (by omega)))
    (fun p q p1 p2 p3 p4 => by rw [hS2.out (.inr p1),hS2.out (.inr (show mid ≤ q by omega))]; exact g4 p q p1 p2 p3 p4) (SwR.between (R:=fun x y => ahB L y x = false) g5 (.inl hS2)) (by simp [f0]) (by simp [f3]) (by simp [f4,ordC]) (by simp [f18]) (by simp [f24])
  ·have h2' : ¬ (s : Int) < (mid : Int):=by omega
   obtain rfl : s = mid:=by omega
   simp (disch:=omega) [-getElem?_pos,if_pos,if_neg,decide_eq_true,decide_eq_false,hdC,smT,smC,tlC,ir_slices_symMergeCmpFunc_int,f0,f1,f3,f4,f18,f20,f24,h1',h2']
   exact sm_right ih hC hN (by omega) hme heh hh hS a1 g2 g3 g4 g5 (by simp [f0]) (by simp [f3]) (by simp [f4,ordC]) (by simp [f18]) (by simp [f24])
 ·have h1' : ¬ (lo : Int) < (s : Int):=by omega
  obtain rfl : s = lo:=by omega
  simp (disch:=omega) [-getElem?_pos,if_pos,if_neg,decide_eq_true,decide_eq_false,hdC,smT,smC,tlC,ir_slices_symMergeCmpFunc_int,f0,f1,f3,f4,f18,f20,f24,h1']
  exact sm_right ih hC hN (by omega) hme heh hh hS a2 g2 g3 g4 g5 (by simp [f0]) (by simp [f3]) (by simp [f4,ordC]) (by simp [f18]) (by simp [f24])
theorem sm_mid {N : Nat} (ih : MgAll N) {H0 : AH} {q b n lo m mid nn s hi : Nat} {L : List (Int × Int)} {X : List Int} (hC : MgC H0 q b n L X) (hlm : lo < m) (hmh : m < hi) (hN : hi - lo ≤ N + 1) (hmid : lo < mid ∧ mid < hi) (hh : hi ≤ n) (hnd : nn = mid + m)
  (hs1 : SrtR (ahB L) X lo m) (hs2 : SrtR (ahB L) X m hi) (hr : RunR X lo m hi) (hcut : CutR (ahB L) X lo m hi mid s (nn - s))
  {env : Env} (f0 : env 0 = some (.slice (some ⟨b,0,none⟩) n n)) (f4 : env 4 = some (ordC q)) (f20 : env 20 = some (.int .i64 (s : Nat))) (f1 : env 1 = some (.int .i64 (lo : Nat))) (f2 : env 2 = some (.int .i64 (m : Nat))) (f3 : env 3 = some (.int .i64 (hi : Nat))) (f18 : env 18 = some (.int .i64 (mid : Nat))) (f19 : env 19 = some (.int .i64 (nn : Nat))) :
  wpC Try.prog 220 smM (bodyK [] (SrtQ H0 b lo hi L X)) env (dH H0 b X):=by
 have ho:=ahB_ord hC.w
 have hn5:=hC.n5
 have hXn:=hC.len
 rw [smM_eq]
 obtain ⟨e,he⟩ : ∃ e,e = nn - s:=⟨_,rfl⟩
 rw [← he] at hcut
 have hcs:=hcut.bs
 have hce:=hcut.be
 have hcsum:=hcut.sum
 have hei : (nn : Int) - (s : Int) = (e : Int):=by omega
 unfold ordC at f4
 have hhv:=fun (M : List Int) (hx : ∀ p,gI M p = rot (gI X) s m e p) => hcut.halves (M:=M) ho hs1 hs2 hr hx
 have hov : ordC q = .func (.func F_knap_Order_1) #[] #[.pointer (some ⟨q,0,none⟩)]:=rfl
 have hfin2 : ∀ (M : List Int) (env3 : Env),(∀ p,gI M p = rot (gI X) s m e p) → SwR lo hi X M → env3 0 = some (.slice (some ⟨b,0,none⟩) n n) → env3 1 = some (.int .i64 (lo : Nat)) → env3 20 = some (.int .i64 (s : Nat)) → env3 3 = some (.int .i64 (hi : Nat)) → env3 4 = some (ordC q) → env3 18 = some (.int .i64 (mid : Nat)) → env3 24 = some (.int .i64 (e : Nat)) → wpC Try.prog 220 smT (bodyK [] (SrtQ H0 b lo hi L X)) env3 (dH H0 b M) :=
  fun M env3 hx hS => let ⟨⟨a1,a2,a3⟩,⟨b1,b2,b3⟩,c1⟩:=hhv M hx; sm_left (ih) hC (by omega) (by omega) (by omega) (by omega) (by omega) (by omega) hh hS a1 a2 a3 b1 b2 b3 c1
 by_cases hr1 : s < m
 ·have hr1' : (s : Int) < (m : Int):=by omega
  by_cases hr2 : m < e
  ·have hr2' : (m : Int) < (e : Int):=by omega
   have hrs:=rot_spec (H0:=H0) (b:=b) (n:=n) (lo:=s) (m:=m) (hi:=e) (q:=q) (X:=X) hXn hn5 (by omega) (by omega) (by omega)
   unfold ordC at hrs
   simp (disch:=omega) [-getElem?_pos,if_pos,if_neg,decide_eq_true,decide_eq_false,hdC,tlC,smM,smC,ir_slices_symMergeCmpFunc_int,f0,f1,f2,f3,f4,f18,f19,f20,hei,hr1',hr2',IntWalk.i64_in]
   refine hrs.mono' fun u H3 w3 ⟨M1,hH3,hS1,hx1⟩ => ?_
   subst hH3
   simp (disch:=omega) [-getElem?_pos,if_pos,if_neg,decide_eq_true,decide_eq_false,]
   exact hfin2 M1 _ hx1 (hS1.mono (by omega) (by omega)) (by simp [f0]) (by simp [f1]) (by simp [f20]) (by simp [f3]) (by simp [f4,ordC]) (by simp [f18]) (by simp)
  ·have hr2' : ¬ (m : Int) < (e : Int):=by omega
   simp (disch:=omega) [-getElem?_pos,if_pos,if_neg,decide_eq_true,decide_eq_false,hdC,tlC,smM,smC,ir_slices_symMergeCmpFunc_int,f0,f1,f2,f3,f4,f18,f19,f20,hei,hr1',hr2',IntWalk.i64_in]
   exact hfin2 X _ (fun p => by rw [rot_none (by omega) (by omega) (by omega)]) .refl (by simp [f0]) (by simp [f1]) (by simp [f20]) (by simp [f3]) (by simp [f4,ordC]) (by simp [f18]) (by simp)
 ·have hr1' : ¬ (s : Int) < (m : Int):=by omega
  simp (disch:=omega) [-getElem?_pos,if_pos,if_neg,decide_eq_true,decide_eq_false,hdC,tlC,smM,smC,ir_slices_symMergeCmpFunc_int,f0,f1,f2,f3,f4,f18,f19,f20,hei,hr1',IntWalk.i64_in]
  exact hfin2 X _ (fun p => by rw [rot_none (by omega) (by omega) (by omega)]) .refl (by simp [f0]) (by simp [f1]) (by simp [f20]) (by simp [f3]) (by simp [f4,ordC]) (by simp [f18]) (by simp)
theorem mg_spec : ∀ (N : Nat) {H0 : AH} {q b n lo m hi : Nat} {L : List (Int × Int)} {X : List Int},hi - lo ≤ N → MgC H0 q b n L X → lo < m → m < hi → hi ≤ n → SrtR (ahB L) X lo m → SrtR (ahB L) X m hi → RunR X lo m hi →
  AFn Try.prog F_slices_symMergeCmpFunc_int [.slice (some ⟨b,0,none⟩) n n,.int .i64 (lo : Nat),.int .i64 (m : Nat),.int .i64 (hi : Nat),ordC q] (dH H0 b X) (SrtQ H0 b lo hi L X)
 | 0,_,_,_,_,_,_,_,_,_,hN,_,h1,h2,_,_,_,_ => by omega
 | N + 1,H0,q,b,n,lo,m,hi,L,X,hN,hC,hlm,hmh,hh,hs1,hs2,hr => by
  refine AFn.enter mixed ir_slices_symMergeCmpFunc_int_eq (by simp [ir_slices_symMergeCmpFunc_int]) fun hw0 => ?_
  rw [sm_eq]
  have ho:=ahB_ord hC.w
  have hn5:=hC.n5
  have hXn:=hC.len
  have hd1 : (m : Int) - (lo : Int) = ((m - lo : Nat) : Int):=by omega
  have hd2 : (hi : Int) - (m : Int) = ((hi - m : Nat) : Int):=by omega
  by_cases hm1 : m = lo + 1
  ·subst hm1
   have hd1' : ((lo + 1 : Nat) : Int) - (lo : Int) = 1:=by omega
   simp (disch:=omega) [-getElem?_pos,if_pos,if_neg,decide_eq_true,decide_eq_false,hdC,tlC,smC,ir_slices_symMergeCmpFunc_int,hd1',IntWalk.i64_in]
   refine wpC_use (mg_l4 (H0:=H0) (q:=q) (b:=b) (n:=n) (lo:=lo) (hi:=hi) (L:=L) (X:=X) hC rfl (by omega) hh hs2 hr ⟨lo + 1,hi,rfl,by simp,by simp,by simp,by simp,by simp,rfl,.start (by omega)⟩) ?_
   rintro ex env2 H2 ⟨rfl,s,f0,f1,f10,rfl,hI⟩ _
   have hb:=hI.bd
   simp (disch:=omega) [-getElem?_pos,if_pos,if_neg,decide_eq_true,decide_eq_false,f0,f1,f10]
   refine wpC_use (mg_l3 (H0:=H0) (b:=b) (n:=n) (lo:=lo) (hi:=hi) (i:=s) (X:=X) hXn hn5 rfl (by omega) (by omega) hh ⟨lo,rfl,Nat.le_refl _,by omega,by simp [f0],by simp [f10],by simp,X,rfl,.refl,fun p => by rw [down1_zero]⟩) ?_
   rintro ex env3 H3 ⟨rfl,M,rfl,hS,hx⟩ _
   simp (disch:=omega) [-getElem?_pos,if_pos,if_neg,decide_eq_true,decide_eq_false,]
   exact ⟨M,rfl,hS,down1_srt ho ⟨by omega,by omega⟩ hs2 hI.lo hI.hi hx⟩
  ·have hm1' : ¬ ((m - lo : Nat) : Int) = 1:=by omega
   by_cases hm2 : hi = m + 1
   ·subst hm2
    have hd2' : ((m + 1 : Nat) : Int) - (m : Int) = 1:=by omega
    simp (disch:=omega) [-getElem?_pos,if_pos,if_neg,decide_eq_true,decide_eq_false,hdC,tlC,smC,ir_slices_symMergeCmpFunc_int,hd1,hm1',hd2',IntWalk.i64_in]
    refine wpC_use (mg_l2 (H0:=H0) (q:=q) (b:=b) (n:=n) (lo:=lo) (m:=m) (L:=L) (X:=X) hC rfl hlm (by omega) hs1 hr ⟨lo,m,rfl,by simp,by simp,by simp,by simp,by simp,rfl,.start (by omega)⟩) ?_
    rintro ex env2 H2 ⟨rfl,s,f0,f2,f14,rfl,hI⟩ _
    have hb:=hI.bd
    simp (disch:=omega) [-getElem?_pos,if_pos,if_neg,decide_eq_true,decide_eq_false,f0,f2,f14]
    refine wpC_use (mg_l1 (H0:=H0) (b:=b) (n:=n) (lo:=lo) (m:=m) (i:=s) (X:=X) hXn hn5 rfl (by omega) (by omega) (by omega) ⟨m,rfl,by omega,Nat.le_refl _,by simp [f0],by simp [f14],by simp,X,rfl,.refl,fun p => by rw [up1_zero]⟩) ?_
    rintro ex env3 H3 ⟨rfl,M,rfl,hS,hx⟩ _
    simp (disch:=omega) [-getElem?_pos,if_pos,if_neg,decide_eq_true,decide_eq_false,]
    refine ⟨M,rfl,hS,up1_srt ho ⟨hb.1,hb.2.2⟩ hs1 (fun c c1 c2 => ?_) (fun c c1 c2 => ?_) hx⟩
    ·have:=hI.lo c c1 c2; simpa using this
    ·have:=hI.hi c c1 c2; simpa using this
   ·have hm2' : ¬ ((hi - m : Nat) : Int) = 1:=by omega
    obtain ⟨mid,hmid⟩ : ∃ mid,mid = (lo + hi) / 2:=⟨_,rfl⟩
    have hsh:=half_shr (n:=lo + hi) (by omega)
    rw [← hmid] at hsh
    have hsi : (lo : Int) + (hi : Int) = ((lo + hi : Nat) : Int):=by omega
    obtain ⟨nn,hnd⟩ : ∃ nn,nn = mid + m:=⟨_,rfl⟩
    obtain ⟨p,hpd⟩ : ∃ p,p = nn - 1:=⟨_,rfl⟩
    have hnn : (mid : Int) + (m : Int) = (nn : Int):=by omega
    have hpp : (nn : Int) - 1 = (p : Int):=by omega
    have key : ∃ s0 r0,((mid < m ∧ s0 = mid + m - hi ∧ r0 = mid) ∨ (m ≤ mid ∧ s0 = lo ∧ r0 = m)):=by
     by_cases h : mid < m
     ·exact ⟨_,_,.inl ⟨h,rfl,rfl⟩⟩
     ·exact ⟨_,_,.inr ⟨by omega,rfl,rfl⟩⟩
    obtain ⟨s0,r0,hsr⟩:=key
    have hl0:=fun env h => mg_l0 (H0:=H0) (H:=dH H0 b X) (q:=q) (b:=b) (n:=n) (lo:=lo) (m:=m) (hi:=hi) (mid:=mid) (nn:=nn) (p:=p) (s0:=s0) (r0:=r0) (L:=L) (X:=X) (v:=.slice (some ⟨b,0,none⟩) n n) hC rfl hh hs1 hs2 hr (fun c c1 c2 => by omega) (env:=env) h
    have hfin : ∀ s,SchI (fun c => !(ahB L (gI X (p - c)) (gI X c))) s0 r0 s s → CutR (ahB L) X lo m hi mid s (nn - s):=fun s hI => by rw [hnd]; refine cut_of (s0:=s0) (r0:=r0) ⟨hlm,hmh⟩ hmid hsr ?_; rw [← hnd,← hpd]; exact hI
    have hst : SchI (fun c => !(ahB L (gI X (p - c)) (gI X c))) s0 r0 s0 r0:=.start (by omega)
    generalize hlh : lo + hi = lh at *
    have tail : ∀ (s e : Nat) (M1 : List Int),CutR (ahB L) X lo m hi mid s e → SwR lo hi X M1 → (∀ p,gI M1 p = rot (gI X) s m e p) → True:=fun _ _ _ _ _ _ => trivial
    by_cases hgt : mid < m
    case' pos =>
     have hgt' : (mid : Int) < (m : Int):=by omega
     have hs0 : s0 = mid + m - hi ∧ r0 = mid:=by omega
     have hs0' : (nn : Int) - (hi : Int) = (s0 : Int):=by omega
     obtain ⟨_,hr0⟩:=hs0
     simp (disch:=omega) [-getElem?_pos,if_pos,if_neg,decide_eq_true,decide_eq_false,hdC,tlC,smC,ir_slices_symMergeCmpFunc_int,hd1,hm1',hd2,hm2',hsi,↓hsh,hnn,hpp,hgt',hs0',IntWalk.i64_in]
     refine wpC_use (hl0 _ ⟨s0,r0,rfl,by simp,by simp,by simp,by simp; omega,by simp,by simp,by simp,by simp,by simp,by simp,rfl,hst⟩) ?_
    case' neg =>
     have hgt' : ¬ (mid : Int) < (m : Int):=by omega
     have hs0 : s0 = lo ∧ r0 = m:=by omega
     obtain ⟨hs00,hr0⟩:=hs0
     simp (disch:=omega) [-getElem?_pos,if_pos,if_neg,decide_eq_true,decide_eq_false,hdC,tlC,smC,ir_slices_symMergeCmpFunc_int,hd1,hm1',hd2,hm2',hsi,↓hsh,hnn,hpp,hgt',IntWalk.i64_in]
     refine wpC_use (hl0 _ ⟨s0,r0,rfl,by simp,by simp,by simp; omega,by simp; omega,by simp,by simp,by simp,by simp,by simp,by simp,rfl,hst⟩) ?_
    all_goals
     rintro ex env2 H2 ⟨rfl,s,f0,f4,f20,f1,f2,f3,f18,f19,rfl,hI⟩ _
     simp (disch:=omega) [-getElem?_pos,if_pos,if_neg,decide_eq_true,decide_eq_false,]
     exact sm_mid (fun {_ _ _ _ _ _ _ _ _} => mg_spec N) hC hlm hmh hN (by omega) hh hnd hs1 hs2 hr (hfin s hI) f0 f4 f20 f1 f2 f3 f18 f19
end Go.Proofs.Ytllfcbacpoaphaa
