/-
  DualLess.
-/
import Derived.Test.YtejifalflkbekaaDoorDs26
import Derived.Test.YtejifalflkbekaaDoorDs17
set_option maxRecDepth 100000
set_option linter.unusedSimpArgs false
set_option linter.unusedVariables false
namespace Go.Abs
open Go Go.Proofs.YtejifalflkbekaaDoor.Bs
def covB (L : List SetD) (T : List Bool) (m : Nat) : Bool:=decide ((wipeM L T (msk m) L.length).count true = 0)
def cstM (L : List SetD) (m : Nat) : Int:=costM L (msk m) L.length
def leanB (L : List SetD) (T : List Bool) (D : Nat) (m : Nat) : Bool:=covB L T m && decide (m &&& D = 0)
theorem bF_succ {p : Nat → Bool} {c : Nat → Int} {m : Nat} : bF p c (m + 1) = if p m && (decide (bF p c m < 0) || decide (c m < bF p c m)) then c m else bF p c m:=rfl
structure LessF (M : List SetD) (B : List Bool) : Prop where
 same : bF (covB M B) (cstM M) (2 ^ M.length) = bF (leanB M B (dropN (ndA M B))) (cstM M) (2 ^ M.length)
 nmem : ∀ a ∈ ndA M B,∃ k : Nat,a = k ∧ k < M.length
 emem : ∀ mask,covB M B mask = true → ∀ a ∈ esA M B,∃ k : Nat,a = k ∧ k < M.length ∧ msk mask k = true
theorem less_facts {M : List SetD} {B : List Bool} {n : Nat} (hD : DOk n M) : LessF M B:=by
 have hnm : ∀ a ∈ ndA M B,∃ k : Nat,a = k ∧ k < M.length ∧ needB M B k = true:=fun a ha => by
  unfold ndA at ha
  split at ha
  ·obtain ⟨i,h1,h2,h3⟩:=selK_mem.1 ha
   exact ⟨i,h1,h2,h3⟩
  ·simp at ha
 refine ⟨bF_same (fun m => (costM_bound hD M.length).1) (fun m _ h => by unfold leanB at h; rw [Bool.and_eq_true] at h; exact h.1) (fun m hm h => ?_),fun a ha => by obtain ⟨k,h1,h2,_⟩:=hnm a ha; exact ⟨k,h1,h2⟩,fun mask hm a ha => ?_⟩
 ·obtain ⟨m',h1,h2,h3,h4⟩:=lean_ex hD (of_decide_eq_true h)
  refine ⟨m',h1,?_,h4⟩
  unfold leanB covB
  rw [decide_eq_true h2,Bool.true_and]
  refine decide_eq_true ((drop_zero (n:=M.length) fun x hx => ?_).2 fun k hk => ?_)
  ·obtain ⟨k,rfl,h2,_⟩:=hnm x hx; omega
  ·obtain ⟨j,h5,h6,h7⟩:=hnm _ hk
   obtain rfl : k = j:=by omega
   exact h3 k h6 h7
 ·unfold esA at ha
  split at ha
  ·obtain ⟨i,h1,h2,h3⟩:=selK_mem.1 ha
   exact ⟨i,h1,h2,ess_in hD (of_decide_eq_true hm) h2 h3⟩
  ·simp at ha
theorem ndA_len {M : List SetD} {B : List Bool} : (ndA M B).length ≤ M.length:=by unfold ndA; split; exact selK_len _ _; simp
theorem esA_len {M : List SetD} {B : List Bool} : (esA M B).length ≤ M.length:=by unfold esA; split; exact selK_len _ _; simp
end Go.Abs
namespace Go.Proofs.YtejifalflkbekaaDoor
open Go Go.Abs Go.Proofs.YtejifalflkbekaaDoor.Bs
def L3I (H1 : AH) (r : Nat) (av yv : Value) (D : Nat) (L : List SetD) (T : List Bool) (m : Nat) (env : Env) (H' : AH) : Prop :=
 env 5 = some (.pointer (some ⟨r,0,none⟩)) ∧ env 7 = some av ∧ env 10 = some yv ∧ env 11 = some (.int .i64 D) ∧ env 14 = some (.int .i64 (bF (covB L T) (cstM L) m)) ∧ env 15 = some (.int .i64 (bF (leanB L T D) (cstM L) m)) ∧ env 68 = some (.int .i64 ((2 ^ L.length : Nat) : Int)) ∧ env 69 = some (.int .i64 m) ∧ WF H' ∧ Keep [] H1 H'
def L3Q (H1 : AH) (D : Nat) (L : List SetD) (T : List Bool) (x : AExit) (env : Env) (H' : AH) : Prop:=x = .exit 2 ∧ env 14 = some (.int .i64 (bF (covB L T) (cstM L) (2 ^ L.length))) ∧ env 15 = some (.int .i64 (bF (leanB L T D) (cstM L) (2 ^ L.length))) ∧ WF H' ∧ Keep [] H1 H'
theorem less_l3 {H1 : AH} {r n : Nat} {av yv sl : Value} {D : Nat} {L : List SetD} {T : List Bool} {Y : List Int} (hw : WF H1) (hr : H1.cells r = some [.int .i64 T.length,sl]) (hs : SetB (fun b => b < H1.next) H1 (.agg #[.int .i64 T.length,sl]) T) (hL : SlV (fun b => b < H1.next) H1 av L) (hY : SlV (fun b => b < H1.next) H1 yv Y) (hYl : Y.length ≤ 1000) (hD : DOk n L) (hl : L.length ≤ 8) (hel : ∀ s ∈ L,s.elems.length ≤ 30) (hDl : D < 4611686018427387904)
  (hfact : ∀ mask,covB L T mask = true → ∀ a ∈ Y,∃ k : Nat,a = k ∧ k < L.length ∧ msk mask k = true) {env : Env} (h : L3I H1 r av yv D L T 0 env H1) :
  wpC Tryd.prog 155 (.loop ir_law18_DualLess_l3) (L3Q H1 D L T) env H1:=by
 refine loop_upto (2 ^ L.length) (L3I H1 r av yv D L T) (Q:=L3Q H1 D L T) h ?_
 rintro m env H' hk ⟨e5,e7,e10,e11,e14,e15,e68,e69,w',k'⟩
 have hn':=k'.next
 have hpow : 2 ^ L.length ≤ 2 ^ 8:=Nat.pow_le_pow_right (by omega) hl
 obtain ⟨N2,hN2⟩ : ∃ N2,N2 = 2 ^ L.length:=⟨_,rfl⟩
 by_cases hkn : m < 2 ^ L.length
 ·have hm : m < 4611686018427387904:=by omega
  have hr':=cells_kept hw k' hr
  obtain ⟨H2,hH2⟩ : ∃ H2,H2 = H'.alloc (.row [.int .i64 T.length,sl] T_bitset_Set true):=⟨_,rfl⟩
  have k2 : Keep [] H' H2:=by rw [hH2]; exact .alloc
  have w2 : WF H2:=by rw [hH2]; exact w'.alloc
  have n2 : H2.next = H'.next + 1:=by rw [hH2]; rfl
  have k12:=k'.trans' k2
  have b2 : H2.blk H'.next = some (.row [.int .i64 T.length,sl] T_bitset_Set true):=by rw [hH2]; exact AH.alloc_blk_new
  have hset : SetAt H2 H'.next [] T:=⟨sl,b2,(hs.kept' hw k12).up2 (fun b hb => ⟨by omega,by simp⟩) .refl⟩
  have hone:=hs.one
  obtain ⟨va,vc,rfl⟩:=hL.slice
  have hB1:=bF_succ (p:=covB L T) (c:=cstM L) (m:=m)
  have hL1:=bF_succ (p:=leanB L T D) (c:=cstM L) (m:=m)
  have hft:=hfact m
  rw [← hN2] at e68 hkn hpow
  have hkn' : (m : Int) < (N2 : Int):=by omega
  simp (disch:=omega) [-getElem?_pos,if_pos,if_neg,decide_eq_true,decide_eq_false,ir_law18_DualLess_l3,e5,e7,e10,e11,e14,e15,e68,e69,hkn,hkn',hr',writeA,over,cut2v,hone.1,hone.2]
  rw [← hH2]
  refine wpC_use (less_l2 (H1:=H2) (q:=H'.next) (av:=.slice va L.length vc) (mask:=m) (T:=T) (by omega) w2 ((hL.kept hw k12).mono fun b hb => by omega) hD hl hel hm ?_) ?_
  ·exact ⟨by simp,by simp,by simp,by simp,by simp,by simp [costM],w2,.refl,hset⟩
  rintro x env2 H3 ⟨rfl,f17,f18,w3,k3,sl3,b3,hs3⟩ hu
  have u5:=hu 5 (by decide)
  have u7:=hu 7 (by decide)
  have u10:=hu 10 (by decide)
  have u11:=hu 11 (by decide)
  have u14:=hu 14 (by decide)
  have u15:=hu 15 (by decide)
  have u16:=hu 16 (by decide)
  have u68:=hu 68 (by decide)
  have u69:=hu 69 (by decide)
  simp [e5,e7,e10,e11,e14,e15,e68,e69] at u5 u7 u10 u11 u14 u15 u16 u68 u69
  clear hu
  have c3:=AH.cells_of b3
  have hcnt:=Count_spec hs3
  have k13 : Keep [] H1 H3:=k12.trans k3 fun b hb hlt => by simp at hb; omega
  have hN256 : (m : Int) ≤ 256:=by omega
  have hcm : cstM L m = costM L (msk m) L.length:=rfl
  have hcv : covB L T m = decide ((wipeM L T (msk m) L.length).count true = 0):=rfl
  have hlv : leanB L T D m = (covB L T m && decide (m &&& D = 0)):=rfl
  rw [← hcm] at f18
  rw [hlv] at hL1
  have han:=i64_nat_and (a:=m) (b:=D) hm hDl
  generalize bF (covB L T) (cstM L) m = bs at *
  generalize bF (leanB L T D) (cstM L) m = ls at *
  generalize cstM L m = cost at *
  have hwr : IntKind.i64.wrap ((m : Int) + 1) = (m : Int) + 1:=IntWalk.i64_in _ (by omega)
  generalize hcb : (wipeM L T (msk m) L.length).count true = cb at *
  by_cases hz : cb = 0
  ·rw [decide_eq_true hz] at hcv
   rw [hcv] at hB1 hL1
   rw [hz] at hcnt
   have hin:=hft hcv
   have hL3:=hL.kept hw k13
   have hY3:=hY.kept hw k13
   have hcY:=hY.cell
   obtain ⟨ya,yc,rfl⟩:=hY.slice
   have goal2 : ∀ (env3 : Env),env3 5 = some (.pointer (some ⟨r,0,none⟩)) → env3 7 = some (.slice va L.length vc) → env3 10 = some (.slice ya Y.length yc) → env3 11 = some (.int .i64 D) → env3 14 = some (.int .i64 (bF (covB L T) (cstM L) (m + 1))) → env3 15 = some (.int .i64 (bF (leanB L T D) (cstM L) (m + 1))) → env3 68 = some (.int .i64 N2) → env3 69 = some (.int .i64 ((m : Int) + 1)) → m + 1 ≤ 2 ^ L.length ∧ L3I H1 r (.slice va L.length vc) (.slice ya Y.length yc) D L T (m + 1) env3 H3:=fun env3 g5 g7 g10 g11 g14 g15 g68 g69 =>
    ⟨by omega,g5,g7,g10,g11,g14,g15,by rw [g68,hN2],by rw [g69]; simp,w3,k13⟩
   generalize hzz : m &&& D = zz at *
   have hb3 : (bs < 0) ∨ (¬ bs < 0 ∧ cost < bs) ∨ (¬ bs < 0 ∧ ¬ cost < bs):=by omega
   have hl4 : (zz ≠ 0) ∨ (zz = 0 ∧ ls < 0) ∨ (zz = 0 ∧ ¬ ls < 0 ∧ cost < ls) ∨ (zz = 0 ∧ ¬ ls < 0 ∧ ¬ cost < ls):=by omega
   simp (disch:=omega) [-getElem?_pos,if_pos,if_neg,decide_eq_true,decide_eq_false,f17,c3,cut2v]
   refine AFn.pure hcnt ?_
   clear hcm hcb hlv hcv hN2
   rcases hb3 with q1 | ⟨q1,q2⟩ | ⟨q1,q2⟩ <;> rcases hl4 with p1 | ⟨p1,p2⟩ | ⟨p1,p2,p3⟩ | ⟨p1,p2,p3⟩ <;> (
    have pz : ((zz : Int) = 0) = (zz = 0):=by simp
    simp [*] at hB1 hL1
    simp (disch:=omega) [-getElem?_pos,if_pos,if_neg,decide_eq_true,decide_eq_false,u7,u10,u11,u14,u15,u16,f18,↓han, *]
    refine wpC_use (less_l0 (av:=.slice va L.length vc) (yv:=.slice ya Y.length yc) (mask:=m) hL3 hY3 hYl hl hm hin ?_) ?_
    ·exact ⟨by simp [u7],by simp [u16],by simp,by simp,by simp,rfl⟩
    rintro x env4 H4 ⟨rfl,rfl⟩ hu
    have v5:=hu 5 (by decide)
    have v7:=hu 7 (by decide)
    have v10:=hu 10 (by decide)
    have v11:=hu 11 (by decide)
    have v14:=hu 14 (by decide)
    have v15:=hu 15 (by decide)
    have v68:=hu 68 (by decide)
    have v69:=hu 69 (by decide)
    simp [u5,u7,u10,u11,u14,u15,u68,u69] at v5 v7 v10 v11 v14 v15 v68 v69
    clear hu
    simp (disch:=omega) [-getElem?_pos,if_pos,if_neg,decide_eq_true,decide_eq_false,v69,hwr]
    exact goal2 _ (by simp [v5]) (by simp [v7]) (by simp [v10]) (by simp [v11]) (by simp [v14,hB1]) (by simp [v15,hL1]) (by simp [v68]) (by simp))
  ·rw [decide_eq_false hz] at hcv
   rw [hcv] at hB1 hL1
   have hz2 : (0 : Int) < (cb : Int):=by omega
   simp (disch:=omega) [-getElem?_pos,if_pos,if_neg,decide_eq_true,decide_eq_false,f17,c3,cut2v]
   refine AFn.pure hcnt ?_
   simp (disch:=omega) [-getElem?_pos,if_pos,if_neg,decide_eq_true,decide_eq_false,hz2,u69,hwr]
   exact ⟨by omega,by simp [u5],by simp [u7],by simp [u10],by simp [u11],by simp [u14,hB1],by simp [u15,hL1],by simp [u68,hN2],by simp,w3,k13⟩
 ·obtain rfl : m = 2 ^ L.length:=by omega
  rw [← hN2] at e68 e69
  simp (disch:=omega) [-getElem?_pos,if_pos,if_neg,decide_eq_true,decide_eq_false,ir_law18_DualLess_l3,e68,e69]
  exact ⟨rfl,e14,e15,w',k'⟩
end Go.Proofs.YtejifalflkbekaaDoor
