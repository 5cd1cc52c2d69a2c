/-
  The library's stable sort of places, by a closure (2): swaps of blocks, turns, searches.
-/
import Derived.Test.YtllfcbacpoaphaaKn2
set_option maxRecDepth 100000
set_option linter.unusedSimpArgs false
set_option linter.unusedVariables false
namespace Go.Abs
structure SchI (f : Nat → Bool) (s0 r0 s r : Nat) : Prop where
 bd : s0 ≤ s ∧ s ≤ r ∧ r ≤ r0
 lo : ∀ c,s0 ≤ c → c < s → f c = true
 hi : ∀ c,r ≤ c → c < r0 → f c = false
theorem SchI.start {f : Nat → Bool} {s0 r0 : Nat} (h : s0 ≤ r0) : SchI f s0 r0 s0 r0:=⟨⟨Nat.le_refl _,h,Nat.le_refl _⟩,fun c h1 h2 => by omega,fun c h1 h2 => by omega⟩
theorem SchI.up {f : Nat → Bool} {s0 r0 s r h : Nat} (hI : SchI f s0 r0 s r) (mono : ∀ c d,s0 ≤ c → c ≤ d → d < r0 → f d = true → f c = true) (hs : s ≤ h ∧ h < r) (hf : f h = true) : SchI f s0 r0 (h + 1) r:=by
 have hb:=hI.bd
 exact ⟨⟨by omega,by omega,by omega⟩,fun c h1 h2 => mono c h h1 (by omega) (by omega) hf,hI.hi⟩
theorem SchI.down {f : Nat → Bool} {s0 r0 s r h : Nat} (hI : SchI f s0 r0 s r) (mono : ∀ c d,s0 ≤ c → c ≤ d → d < r0 → f d = true → f c = true) (hs : s ≤ h ∧ h < r) (hf : f h = false) : SchI f s0 r0 s h:=by
 have hb:=hI.bd
 refine ⟨⟨by omega,by omega,by omega⟩,hI.lo,fun c h1 h2 => ?_⟩
 cases hc : f c with
 | false => rfl
 | true => rw [mono h c (by omega) h1 h2 hc] at hf; cases hf
end Go.Abs
namespace Go.Proofs.Ytllfcbacpoaphaa
open Go Go.Abs
def SwpI (H0 : AH) (b n lo m len : Nat) (X : List Int) (v : Value) (k : Nat) (env : Env) (H' : AH) : Prop :=
 env 0 = some v ∧ env 1 = some (.int .i64 (lo : Nat)) ∧ env 2 = some (.int .i64 (m : Nat)) ∧ env 3 = some (.int .i64 (len : Nat)) ∧ env 10 = some (.int .i64 (k : Nat)) ∧ ∃ M,H' = dH H0 b M ∧ SwR lo (m + len) X M ∧ ∀ p,gI M p = xch (gI X) lo m k p
theorem swp_spec {H0 : AH} {b n lo m len : Nat} {cv : Value} {X : List Int} (hcv : one cv = true) (hXn : X.length = n) (hn : n ≤ 5000) (hm : lo + len ≤ m) (hb : m + len ≤ n) :
  AFn Try.prog F_slices_swapRangeCmpFunc_int [.slice (some ⟨b,0,none⟩) n n,.int .i64 (lo : Nat),.int .i64 (m : Nat),.int .i64 (len : Nat),cv] (dH H0 b X) fun u H' => ∃ M,H' = dH H0 b M ∧ SwR lo (m + len) X M ∧ ∀ p,gI M p = xch (gI X) lo m len p:=by
 refine AFn.enter mixed ir_slices_swapRangeCmpFunc_int_eq (by simp [ir_slices_swapRangeCmpFunc_int]) fun hw0 => ?_
 simp (disch:=omega) [-getElem?_pos,if_pos,if_neg,decide_eq_true,decide_eq_false,ir_slices_swapRangeCmpFunc_int]
 refine wpC_use (loop_upto len (SwpI H0 b n lo m len X (.slice (some ⟨b,0,none⟩) n n)) (Q:=fun ex env H' => ex = .exit 0 ∧ ∃ M,H' = dH H0 b M ∧ SwR lo (m + len) X M ∧ ∀ p,gI M p = xch (gI X) lo m len p) ⟨by simp,by simp,by simp,by simp,by simp,X,rfl,.refl,fun p => by rw [xch_zero]⟩ ?_) ?_
 ·rintro k env H' hk ⟨e0,e1,e2,e3,e10,M,rfl,hS,hx⟩
  have hMl:=hS.length
  by_cases hkn : k < len
  ·obtain ⟨i,hi⟩ : ∃ i,i = lo + k:=⟨_,rfl⟩
   obtain ⟨j,hj⟩ : ∃ j,j = m + k:=⟨_,rfl⟩
   obtain ⟨s1,s2,s3,s4⟩:=dH_swap (H0:=H0) (b:=b) (X:=M) (i:=i) (k:=j) (by omega) (by omega)
   have hst:=xch_step (L:=X) (M:=M) hkn hm (by omega) hMl hx
   have hce:=dH_cells (H0:=H0) (b:=b) (X:=M)
   have hsw:=SwR.step (a:=lo) (b:=m + len) (L:=X) (M:=M) i j ⟨by omega,by omega,by omega⟩ ⟨by omega,by omega,by omega⟩ hS
   rw [← hi,← hj] at hst
   have hii : (lo : Int) + (k : Int) = (i : Int):=by omega
   have hjj : (m : Int) + (k : Int) = (j : Int):=by omega
   have hin : (i : Int) < (n : Int):=by omega
   have hjn : (j : Int) < (n : Int):=by omega
   generalize gI M i = x at *
   generalize gI M j = y at *
   simp (disch:=omega) [-getElem?_pos,if_pos,if_neg,decide_eq_true,decide_eq_false,ir_slices_swapRangeCmpFunc_int_l0,e0,e1,e2,e3,e10,hkn,hii,hjj,hin,hjn,hce,s1,s2,s3,s4,IntWalk.i64_in]
   exact ⟨by simp [e0],by simp [e1],by simp [e2],by simp [e3],by simp,swI M i j,rfl,hsw,hst⟩
  ·obtain rfl : k = len:=by omega
   simp (disch:=omega) [-getElem?_pos,if_pos,if_neg,decide_eq_true,decide_eq_false,ir_slices_swapRangeCmpFunc_int_l0,e3,e10]
   exact ⟨M,rfl,hS,hx⟩
 ·rintro ex env2 H2 ⟨rfl,M,rfl,hS,hx⟩ _
  simp (disch:=omega) [-getElem?_pos,if_pos,if_neg,decide_eq_true,decide_eq_false,]
  exact ⟨M,rfl,hS,hx⟩
def RotI (H0 : AH) (b n lo m hi : Nat) (cv : Value) (X : List Int) (v : Value) (t : Nat) (env : Env) (H' : AH) : Prop :=
 ∃ i j,t = i + j ∧ 0 < i ∧ 0 < j ∧ i ≤ m - lo ∧ j ≤ hi - m ∧ env 0 = some v ∧ env 2 = some (.int .i64 (m : Nat)) ∧ env 4 = some cv ∧ env 10 = some (.int .i64 (i : Nat)) ∧ env 11 = some (.int .i64 (j : Nat)) ∧ ∃ M,H' = dH H0 b M ∧ SwR lo hi X M ∧ rot (gI M) (m - i) m (m + j) = rot (gI X) lo m hi
def RotQ (H0 : AH) (b n lo m hi : Nat) (cv : Value) (X : List Int) (v : Value) (ex : AExit) (env : Env) (H' : AH) : Prop :=
 ex = .exit 0 ∧ ∃ i,0 < i ∧ i ≤ m - lo ∧ i ≤ hi - m ∧ env 0 = some v ∧ env 2 = some (.int .i64 (m : Nat)) ∧ env 4 = some cv ∧ env 10 = some (.int .i64 (i : Nat)) ∧ ∃ M,H' = dH H0 b M ∧ SwR lo hi X M ∧ rot (gI M) (m - i) m (m + i) = rot (gI X) lo m hi
theorem rot_spec {H0 : AH} {b n lo m hi : Nat} {q : Nat} {X : List Int} (hXn : X.length = n) (hn : n ≤ 5000) (hlm : lo < m) (hmh : m < hi) (hhn : hi ≤ n) :
  AFn Try.prog F_slices_rotateCmpFunc_int [.slice (some ⟨b,0,none⟩) n n,.int .i64 (lo : Nat),.int .i64 (m : Nat),.int .i64 (hi : Nat),ordC q] (dH H0 b X) fun u H' => ∃ M,H' = dH H0 b M ∧ SwR lo hi X M ∧ ∀ p,gI M p = rot (gI X) lo m hi p:=by
 refine AFn.enter mixed ir_slices_rotateCmpFunc_int_eq (by simp [ir_slices_rotateCmpFunc_int]) fun hw0 => ?_
 simp (disch:=omega) [-getElem?_pos,if_pos,if_neg,decide_eq_true,decide_eq_false,ir_slices_rotateCmpFunc_int,IntWalk.i64_in]
 refine wpC_use (loop_rule (RotI H0 b n lo m hi (ordC q) X (.slice (some ⟨b,0,none⟩) n n)) (Q:=RotQ H0 b n lo m hi (ordC q) X (.slice (some ⟨b,0,none⟩) n n)) ?_ (j:=(m - lo) + (hi - m)) ⟨m - lo,hi - m,rfl,by omega,by omega,by omega,by omega,by simp,by simp,by simp,by simp; omega,by simp; omega,X,rfl,.refl,by rw [show m - (m - lo) = lo by omega,show m + (hi - m) = hi by omega]⟩) ?_
 ·rintro t env H' ⟨i,j,rfl,hi0,hj0,hil,hjl,e0,e2,e4,e10,e11,M,rfl,hS,hr⟩
  have hMl:=hS.length
  have h1 : (m : Int) - (i : Int) = ((m - i : Nat) : Int):=by omega
  have hov : one (ordC q) = true:=rfl
  by_cases hij : i = j
  ·subst hij
   simp (disch:=omega) [-getElem?_pos,if_pos,if_neg,decide_eq_true,decide_eq_false,ir_slices_rotateCmpFunc_int_l0,e10,e11]
   exact ⟨rfl,i,hi0,hil,hjl,by simp [e0],by simp [e2],by simp [e4],by simp [e10],M,rfl,hS,hr⟩
  ·have hij' : ¬ (i : Int) = (j : Int):=by omega
   by_cases hlt : j < i
   ·have hlt' : (j : Int) < (i : Int):=by omega
    have hsp:=swp_spec (H0:=H0) (b:=b) (n:=n) (lo:=m - i) (m:=m) (len:=j) (X:=M) hov (by omega) hn (by omega) (by omega)
    have h2 : (i : Int) - (j : Int) = ((i - j : Nat) : Int):=by omega
    unfold ordC at e4 hsp
    simp (disch:=omega) [-getElem?_pos,if_pos,if_neg,decide_eq_true,decide_eq_false,ir_slices_rotateCmpFunc_int_l0,e0,e2,e4,e10,e11,hij',hlt',h1,IntWalk.i64_in]
    refine hsp.mono' fun u H2 w2 ⟨M2,hH2,hS2,hx2⟩ => ?_
    subst hH2
    simp (disch:=omega) [-getElem?_pos,if_pos,if_neg,decide_eq_true,decide_eq_false,e0,e2,e4,e10,e11,h2,IntWalk.i64_in]
    refine ⟨(i - j) + j,by omega,i - j,j,rfl,by omega,by omega,by omega,by omega,by simp [e0],by simp [e2],by simp [e4,ordC],by simp,by simp [e11],M2,rfl,hS.trans (hS2.mono (by omega) (by omega)),?_⟩
    rw [show gI M2 = xch (gI M) (m - i) m j from funext hx2,rot_left (by omega) hlt,hr]
   ·have hlt' : ¬ (j : Int) < (i : Int):=by omega
    have hsp:=swp_spec (H0:=H0) (b:=b) (n:=n) (lo:=m - i) (m:=m + j - i) (len:=i) (X:=M) hov (by omega) hn (by omega) (by omega)
    have h2 : (j : Int) - (i : Int) = ((j - i : Nat) : Int):=by omega
    have h3 : (m : Int) + (j : Int) - (i : Int) = ((m + j - i : Nat) : Int):=by omega
    unfold ordC at e4 hsp
    simp (disch:=omega) [-getElem?_pos,if_pos,if_neg,decide_eq_true,decide_eq_false,ir_slices_rotateCmpFunc_int_l0,e0,e2,e4,e10,e11,hij',hlt',h1,h3,IntWalk.i64_in]
    refine hsp.mono' fun u H2 w2 ⟨M2,hH2,hS2,hx2⟩ => ?_
    subst hH2
    simp (disch:=omega) [-getElem?_pos,if_pos,if_neg,decide_eq_true,decide_eq_false,e0,e2,e4,e10,e11,h2,IntWalk.i64_in]
    refine ⟨i + (j - i),by omega,i,j - i,rfl,by omega,by omega,by omega,by omega,by simp [e0],by simp [e2],by simp [e4,ordC],by simp [e10],by simp,M2,rfl,hS.trans (hS2.mono (by omega) (by omega)),?_⟩
    rw [show gI M2 = xch (gI M) (m - i) (m + j - i) i from funext hx2,rot_right (by omega) (by omega),hr]
 ·rintro ex env2 H2 ⟨rfl,i,hi0,hil,hjl,e0,e2,e4,e10,M,rfl,hS,hr⟩ _
  have hMl:=hS.length
  have hov : one (ordC q) = true:=rfl
  have h1 : (m : Int) - (i : Int) = ((m - i : Nat) : Int):=by omega
  have hsp:=swp_spec (H0:=H0) (b:=b) (n:=n) (lo:=m - i) (m:=m) (len:=i) (X:=M) hov (by omega) hn (by omega) (by omega)
  unfold ordC at e4 hsp
  simp (disch:=omega) [-getElem?_pos,if_pos,if_neg,decide_eq_true,decide_eq_false,e0,e2,e4,e10,h1,IntWalk.i64_in]
  refine hsp.mono' fun u H2 w2 ⟨M2,hH2,hS2,hx2⟩ => ?_
  subst hH2
  simp (disch:=omega) [-getElem?_pos,if_pos,if_neg,decide_eq_true,decide_eq_false,]
  refine ⟨M2,rfl,hS.trans (hS2.mono (by omega) (by omega)),fun p => ?_⟩
  rw [hx2,rot_same (by omega),hr]
end Go.Proofs.Ytllfcbacpoaphaa
