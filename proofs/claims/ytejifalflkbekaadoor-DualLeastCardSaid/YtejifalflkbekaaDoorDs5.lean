/-
  package dual: Prices, what it needs.
-/
import Derived.Test.YtejifalflkbekaaDoorBu33
import Derived.Test.YtejifalflkbekaaDoorCrossN
set_option maxRecDepth 100000
set_option linter.unusedSimpArgs false
set_option linter.unusedVariables false
namespace Go.Abs
open Go Go.Proofs.YtejifalflkbekaaDoor.Bs
def hB (L : List SetD) (e k : Nat) : Bool:=match L[k]? with
 | some s => hasE s e
 | none => false
theorem hB_eq {L : List SetD} {e k : Nat} (h : k < L.length) : hB L e k = hasE L[k] e:=by unfold hB; rw [List.getElem?_eq_getElem h]
def lfN (L : List SetD) (P : List Int) (k : Nat) : Int:=match L[k]? with
 | some s => s.cost - spentP P s.elems
 | none => 0
theorem lfN_eq {L : List SetD} {P : List Int} {k : Nat} (h : k < L.length) : lfN L P k = L[k].cost - spentP P L[k].elems:=by unfold lfN; rw [List.getElem?_eq_getElem h]
theorem leftP_mem {L : List SetD} {P : List Int} {e : Nat} {x : Int} : x ∈ leftP L P e ↔ ∃ k,k < L.length ∧ hB L e k = true ∧ x = lfN L P k:=by
 unfold leftP
 constructor
 ·intro h
  obtain ⟨s,hs,rfl⟩:=List.mem_map.1 h
  obtain ⟨h1,h2⟩:=List.mem_filter.1 hs
  obtain ⟨k,hk,rfl⟩:=List.getElem_of_mem h1
  exact ⟨k,hk,by rw [hB_eq hk]; exact h2,(lfN_eq hk).symm⟩
 ·rintro ⟨k,hk,h1,rfl⟩
  rw [hB_eq hk] at h1
  rw [lfN_eq hk]
  exact List.mem_map.2 ⟨L[k],List.mem_filter.2 ⟨List.getElem_mem hk,h1⟩,rfl⟩
theorem selK_nil {b : Nat → Bool} {n : Nat} (h : selK b n = []) : ∀ k,k < n → b k = false:=fun k hk => by
 cases hb : b k with
 | false => rfl
 | true =>
  have : (k : Int) ∈ selK b n:=selK_mem.2 ⟨k,rfl,hk,hb⟩
  rw [h] at this; simp at this
theorem minL_nilK {L : List SetD} {P : List Int} {e : Nat} (h : selK (hB L e) L.length = []) : minL (leftP L P e) = none:=by
 rw [minL_none]
 cases hl : leftP L P e with
 | nil => rfl
 | cons x l =>
  have : x ∈ leftP L P e:=by rw [hl]; simp
  obtain ⟨k,hk,hb,_⟩:=leftP_mem.1 this
  rw [selK_nil h k hk] at hb; cases hb
theorem minL_selK {L : List SetD} {P : List Int} {e a : Nat} (ha : (a : Int) ∈ selK (hB L e) L.length) (hmin : ∀ b : Nat,(b : Int) ∈ selK (hB L e) L.length → lfN L P a ≤ lfN L P b) : minL (leftP L P e) = some (lfN L P a):=by
 obtain ⟨a',h1,h2,h3⟩:=selK_mem.1 ha
 obtain rfl : a = a':=by omega
 refine minL_some.2 ⟨leftP_mem.2 ⟨a,h2,h3,rfl⟩,fun x hx => ?_⟩
 obtain ⟨k,hk,hb,rfl⟩:=leftP_mem.1 hx
 exact hmin k (selK_mem.2 ⟨k,rfl,hk,hb⟩)
end Go.Abs
namespace Go.Proofs.YtejifalflkbekaaDoor
open Go Go.Abs Go.Proofs.YtejifalflkbekaaDoor.Bs
@[simp] theorem call_prC {q : Nat} {vs : List Value} {H : AH} {Q : Value → AH → Prop} : ACall Tryd.prog (.func (.func F_dual_Prices_1) #[] #[.pointer (some ⟨q,0,none⟩)]) vs H Q = AFn Tryd.prog F_dual_Prices_1 (vs ++ [.pointer (some ⟨q,0,none⟩)]) H Q:=by
  rw [ACall_clo good_dual_Prices_1]; rfl
theorem pr1_spec {p : Nat → Prop} {H : AH} {q : Nat} {lv : Value} {X : List Int} (hq : H.cells q = some [lv]) (hX : SlV p H lv X) {a b : Nat} (ha : a < X.length) (hb : b < X.length) : AFn Tryd.prog F_dual_Prices_1 [.int .i64 a,.int .i64 b,.pointer (some ⟨q,0,none⟩)] H fun u H' => u = .int .i64 (sg (X[a] - X[b])) ∧ H' = H:=by
 refine AFn.enter mixed ir_dual_Prices_1_eq (by simp [ir_dual_Prices_1]) fun hw => ?_
 obtain ⟨b0,off,sp,cap,cs,hv,q1,q2⟩:=ints_rd hX (by omega)
 obtain ⟨q3,i3⟩:=q2 a ha
 obtain ⟨q4,i4⟩:=q2 b hb
 subst hv
 have ha' : (a : Int) < (X.length : Int):=by omega
 have hb' : (b : Int) < (X.length : Int):=by omega
 have hc:=fun H => Cross_spec (H:=H) (a:=X[a]) (b:=1) (c:=X[b]) (d:=1) i3 (by unfold I64; omega) i4 (by unfold I64; omega)
 simp only [Int.mul_one] at hc
 generalize X[a] = x at *
 generalize X[b] = y at *
 simp (disch:=omega) [-getElem?_pos,if_pos,if_neg,decide_eq_true,decide_eq_false,ir_dual_Prices_1,hq,q1,q3,q4,ha,hb,ha',hb']
 refine AFnD.of (hc _) ?_
 simp (disch:=omega) [-getElem?_pos,if_pos,if_neg,decide_eq_true,decide_eq_false,]
def MnI (H : AH) (w : Value) (q : Nat) (W X : List Int) (k : Nat) (env : Env) (H' : AH) : Prop :=
 H' = H ∧ env 0 = some w ∧ env 1 = some (.func (.func F_dual_Prices_1) #[] #[.pointer (some ⟨q,0,none⟩)]) ∧ env 6 = some (.int .i64 ((k + 1 : Nat) : Int)) ∧ ∃ a : Nat,env 5 = some (.int .i64 a) ∧ (a : Int) ∈ W ∧ ∀ j (h : j < W.length),j < k + 1 → X.getD a 0 ≤ X.getD W[j].toNat 0
def MnQ (H : AH) (W X : List Int) (x : AExit) (env : Env) (H' : AH) : Prop :=
 x = .exit 0 ∧ H' = H ∧ ∃ a : Nat,env 5 = some (.int .i64 a) ∧ (a : Int) ∈ W ∧ ∀ b ∈ W,X.getD a 0 ≤ X.getD b.toNat 0
theorem getD_at {X : List Int} {a : Nat} (h : a < X.length) : X.getD a 0 = X[a]:=by rw [List.getD_eq_getElem?_getD,List.getElem?_eq_getElem h]; rfl
theorem min_l0 {p p' : Nat → Prop} {H : AH} {w lv : Value} {q : Nat} {W X : List Int} (hW : SlV p H w W) (h0 : 0 < W.length) (hl : W.length ≤ 1000000) (hq : H.cells q = some [lv]) (hX : SlV p' H lv X) (hin : ∀ a ∈ W,0 ≤ a ∧ a < X.length) {env : Env} (h : MnI H w q W X 0 env H) :
  wpC Tryd.prog 33 (.loop ir_slices_MinFunc_Lint_int_l0) (MnQ H W X) env H:=by
 refine loop_upto (W.length - 1) (MnI H w q W X) (Q:=MnQ H W X) h ?_
 rintro k env H' hk ⟨rfl,e0,e1,e6,a,e5,ha,hmn⟩
 obtain ⟨b0,off,sp,cap,cs,hv,q1,q2⟩:=ints_rd hW h0
 subst hv
 by_cases hkn : k + 1 < W.length
 ·obtain ⟨q3,_⟩:=q2 (k + 1) hkn
  have hc:=hin W[k + 1] (List.getElem_mem hkn)
  obtain ⟨c,hc'⟩ : ∃ c : Nat,W[k + 1] = (c : Int):=⟨W[k + 1].toNat,by omega⟩
  have hcm : (c : Int) ∈ W:=by rw [← hc']; exact List.getElem_mem hkn
  have hcl:=hin c hcm
  have hal:=hin a ha
  have h1:=pr1_spec (a:=c) (b:=a) hq hX (by omega) (by omega)
  rw [← getD_at,← getD_at] at h1
  rw [hc'] at q3
  obtain ⟨k1,hk1⟩ : ∃ k1,k1 = k + 1:=⟨_,rfl⟩
  rw [← hk1] at q3 e6 hkn hmn
  have hkn' : (k1 : Int) < (W.length : Int):=by omega
  obtain ⟨xc,hxc⟩ : ∃ xc,xc = X.getD c 0:=⟨_,rfl⟩
  obtain ⟨xa,hxa⟩ : ∃ xa,xa = X.getD a 0:=⟨_,rfl⟩
  rw [← hxc,← hxa] at h1
  have hsl:=@sg_lt (xc - xa)
  have hnx : W[k1].toNat = c:=by simp only [hk1]; rw [hc']; omega
  simp (disch:=omega) [-getElem?_pos,if_pos,if_neg,decide_eq_true,decide_eq_false,ir_slices_MinFunc_Lint_int_l0,e0,e1,e5,e6,hkn,hkn',q1,q3]
  refine AFn.pure h1 ?_
  by_cases hx : xc - xa < 0
  ·have hsg:=hsl.2 hx
   simp (disch:=omega) [-getElem?_pos,if_pos,if_neg,decide_eq_true,decide_eq_false,hsg,e0,e1,e5,e6,hkn,hkn',q1,q3,IntWalk.i64_in]
   refine ⟨by omega,rfl,by simp [e0],by simp [e1],by simp [hk1],c,by simp,hcm,fun j hj hjk => ?_⟩
   rcases Nat.lt_or_ge j k1 with hh | hh
   ·have:=hmn j hj hh; omega
   ·have : j = k1:=by omega
    subst this; rw [hnx]; exact Int.le_refl _
  ·have hsg : ¬ sg (xc - xa) < 0:=fun h => hx (hsl.1 h)
   simp (disch:=omega) [-getElem?_pos,if_pos,if_neg,decide_eq_true,decide_eq_false,hsg,e0,e1,e5,e6,hkn,hkn',q1,q3,IntWalk.i64_in]
   refine ⟨by omega,rfl,by simp [e0],by simp [e1],by simp [hk1],a,by simp [e5],ha,fun j hj hjk => ?_⟩
   rcases Nat.lt_or_ge j k1 with hh | hh
   ·exact hmn j hj hh
   ·have : j = k1:=by omega
    subst this; rw [hnx]; omega
 ·obtain rfl : k = W.length - 1:=by omega
  simp (disch:=omega) [-getElem?_pos,if_pos,if_neg,decide_eq_true,decide_eq_false,ir_slices_MinFunc_Lint_int_l0,e0,e6]
  refine ⟨rfl,rfl,a,e5,ha,fun b hb => ?_⟩
  obtain ⟨j,hj,rfl⟩:=List.getElem_of_mem hb
  exact hmn j hj (by omega)
theorem MinP_spec {p p' : Nat → Prop} {H : AH} {w lv : Value} {q : Nat} {W X : List Int} (hW : SlV p H w W) (h0 : 0 < W.length) (hl : W.length ≤ 1000000) (hq : H.cells q = some [lv]) (hX : SlV p' H lv X) (hin : ∀ a ∈ W,0 ≤ a ∧ a < X.length) :
  AFn Tryd.prog F_slices_MinFunc_Lint_int [w,.func (.func F_dual_Prices_1) #[] #[.pointer (some ⟨q,0,none⟩)]] H fun u H' => (∃ a : Nat,u = .int .i64 a ∧ (a : Int) ∈ W ∧ ∀ b ∈ W,X.getD a 0 ≤ X.getD b.toNat 0) ∧ H' = H:=by
 refine AFn.enter mixed ir_slices_MinFunc_Lint_int_eq (by simp [ir_slices_MinFunc_Lint_int]) fun hw => ?_
 obtain ⟨b0,off,sp,cap,cs,hv,q1,q2⟩:=ints_rd hW h0
 obtain ⟨q3,_⟩:=q2 0 h0
 have hc:=hin W[0] (List.getElem_mem h0)
 obtain ⟨c,hc'⟩ : ∃ c : Nat,W[0] = (c : Int):=⟨W[0].toNat,by omega⟩
 rw [hc',Nat.add_zero] at q3
 have hv0 : ¬ (W.length : Int) < 1:=by omega
 have hv1 : (0 : Int) < (W.length : Int):=by omega
 subst hv
 simp (disch:=omega) [-getElem?_pos,if_pos,if_neg,decide_eq_true,decide_eq_false,ir_slices_MinFunc_Lint_int,hv0,hv1,q1,q3,h0]
 refine wpC_use (min_l0 hW h0 hl hq hX hin ⟨rfl,by simp,by simp,by simp,c,by simp,by rw [← hc']; exact List.getElem_mem h0,fun j hj hj1 => ?_⟩) ?_
 ·obtain rfl : j = 0:=by omega
  rw [hc']; simp
 ·rintro x env2 H2 ⟨rfl,rfl,a,f5,ha,hmn⟩ _
  simp (disch:=omega) [-getElem?_pos,if_pos,if_neg,decide_eq_true,decide_eq_false,f5]
  exact ⟨a,rfl,ha,hmn⟩
end Go.Proofs.YtejifalflkbekaaDoor
