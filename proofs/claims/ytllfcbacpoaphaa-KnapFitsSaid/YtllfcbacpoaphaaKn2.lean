/-
  The library's stable sort of places, by a closure (1): insertion, swaps, turns.
-/
import Derived.Test.YtllfcbacpoaphaaKn1
import Derived.Test.YtllfcbacpoaphaaKsym
set_option maxRecDepth 100000
set_option linter.unusedSimpArgs false
set_option linter.unusedVariables false
namespace Go.Abs
open Go
def rI (X : List Int) : List Value:=X.map (.int .i64)
theorem rI_len {X : List Int} : (rI X).length = X.length:=by simp [rI]
theorem rI_get {X : List Int} {i : Nat} (h : i < X.length) : (rI X)[i]? = some (.int .i64 (gI X i)):=by
 rw [gI_eq h]; simp [rI,h]
theorem rI_set {X : List Int} {i : Nat} {a : Int} (h : i < X.length) : over (rI X) i [.int .i64 a] = rI (X.set i a):=by
 rw [over_one (by rw [rI_len]; exact h)]
 simp [rI,List.map_set]
theorem AH.set_selfK {H : AH} {b : Nat} {B : Blk} (h : H.blk b = some B) : H.set b B = H:=by
 cases H with
 | mk blk next =>
  simp only [AH.set,AH.mk.injEq,and_true]
  funext i
  by_cases hi : i = b
  ·subst hi; simp only [if_true]; exact h.symm
  ·simp only [if_neg hi]
end Go.Abs
namespace Go.Proofs.Ytllfcbacpoaphaa
open Go Go.Abs
@[simp] theorem callD_ordC {q : Nat} {vs : List Value} {H : AH} {Q : Value → AH → Prop} : ACallD Try.prog (.func (.func F_knap_Order_1) #[] #[.pointer (some ⟨q,0,none⟩)]) vs H Q = AFnD Try.prog F_knap_Order_1 (vs ++ [.pointer (some ⟨q,0,none⟩)]) H Q:=by
  rw [ACallD_clo good_knap_Order_1]; rfl
abbrev dH (H0 : AH) (b : Nat) (X : List Int) : AH:=H0.set b (.row (rI X) T_int true)
theorem dH_cells {H0 : AH} {b : Nat} {X : List Int} : (dH H0 b X).cells b = some (rI X):=AH.cells_set_same
theorem dH_write {H0 : AH} {b i : Nat} {X : List Int} {a : Int} (h : i < X.length) : writeA (dH H0 b X) b i [.int .i64 a] = some (dH H0 b (X.set i a)):=by
 rw [writeA_of (AH.set_blk_same) (by rw [rI_len]; simp; omega),rI_set h]
 unfold dH; rw [AH.set_set]
structure SrtC (H0 : AH) (q b : Nat) (L : List (Int × Int)) : Prop where
 ex : ∃ lv,H0.cells q = some [lv] ∧ SlV (fun c => c ≠ b) H0 lv L
 ne : q ≠ b
 len : L.length ≤ 5000
def PlIn (L : List (Int × Int)) (X : List Int) : Prop:=∀ x ∈ X,0 ≤ x ∧ x < L.length
theorem PlIn.at {L : List (Int × Int)} {X : List Int} (h : PlIn L X) {i : Nat} (hi : i < X.length) : 0 ≤ gI X i ∧ gI X i < L.length:=by
 rw [gI_eq hi]; exact h _ (List.getElem_mem hi)
theorem PlIn.sw {L : List (Int × Int)} {X M : List Int} {a b : Nat} (h : PlIn L X) (hs : SwR a b X M) : PlIn L M:=fun x hx => h x (hs.perm.mem_iff.1 hx)
theorem SrtC.cmp {H0 : AH} {q b : Nat} {L : List (Int × Int)} (h : SrtC H0 q b L) {X : List Int} {x y : Int} (hx : 0 ≤ x ∧ x < L.length) (hy : 0 ≤ y ∧ y < L.length) : AFn Try.prog F_knap_Order_1 [.int .i64 x,.int .i64 y,.pointer (some ⟨q,0,none⟩)] (dH H0 b X) fun u H' => u = .int .i64 (worthI (itm L x) (itm L y)) ∧ H' = dH H0 b X:=by
 obtain ⟨lv,h1,h2⟩:=h.ex
 have:=ord1_spec (H:=dH H0 b X) (q:=q) (lv:=lv) (L:=L) (p:=fun c => c ≠ b) (a:=x.toNat) (b:=y.toNat) (by rw [AH.cells_set_ne h.ne]; exact h1) (h2.sub fun c hc cs hcs => by rw [AH.cells_set_ne hc]; exact hcs) (by omega) (by omega)
 rw [show ((x.toNat : Nat) : Int) = x by omega,show ((y.toNat : Nat) : Int) = y by omega] at this
 exact this
theorem dH_swap {H0 : AH} {b i k : Nat} {X : List Int} (hi : i < X.length) (hk : k < X.length) : (rI X)[i]? = some (.int .i64 (gI X i)) ∧ (rI X)[k]? = some (.int .i64 (gI X k)) ∧ writeA (dH H0 b X) b i [.int .i64 (gI X k)] = some (dH H0 b (X.set i (gI X k))) ∧ writeA (dH H0 b (X.set i (gI X k))) b k [.int .i64 (gI X i)] = some (dH H0 b (swI X i k)) :=
 ⟨rI_get hi,rI_get hk,dH_write hi,dH_write (by simpa using hk)⟩
def InsJ (H0 : AH) (b q n lo hi i : Nat) (L : List (Int × Int)) (X : List Int) (v : Value) (j : Nat) (env : Env) (H' : AH) : Prop :=
 env 0 = some v ∧ env 1 = some (.int .i64 (lo : Nat)) ∧ env 2 = some (.int .i64 (hi : Nat)) ∧ env 3 = some (ordC q) ∧ env 8 = some (.int .i64 (i : Nat)) ∧ env 9 = some (.int .i64 (j : Nat)) ∧ lo ≤ j ∧ j ≤ i ∧ ∃ M,H' = dH H0 b M ∧ SwR lo (i + 1) X M ∧ InsR (ahB L) M lo i j
def InsJQ (H0 : AH) (b q n lo hi i : Nat) (L : List (Int × Int)) (X : List Int) (v : Value) (ex : AExit) (env : Env) (H' : AH) : Prop :=
 ex = .exit 2 ∧ env 0 = some v ∧ env 1 = some (.int .i64 (lo : Nat)) ∧ env 2 = some (.int .i64 (hi : Nat)) ∧ env 3 = some (ordC q) ∧ env 8 = some (.int .i64 (i : Nat)) ∧ ∃ M,H' = dH H0 b M ∧ SwR lo (i + 1) X M ∧ SrtR (ahB L) M lo (i + 1)
theorem ins_l0 {H0 H : AH} {b q n lo hi i : Nat} {L : List (Int × Int)} {X : List Int} {v : Value} (hv : v = .slice (some ⟨b,0,none⟩) n n) (hXn : X.length = n) (hc : SrtC H0 q b L) (hX : PlIn L X) (hw : ∀ x ∈ L,0 ≤ x.2) (hn : n ≤ 5000) (hh : hi ≤ n) (hii : i < hi) {env : Env} (h : InsJ H0 b q n lo hi i L X v i env H) :
  wpC Try.prog 53 (.loop ir_slices_insertionSortCmpFunc_int_l0) (InsJQ H0 b q n lo hi i L X v) env H:=by
 refine loop_rule (InsJ H0 b q n lo hi i L X v) (Q:=InsJQ H0 b q n lo hi i L X v) ?_ (j:=i) h
 rintro j env H' ⟨e0,e1,e2,e3,e8,e9,hlj,hji,M,rfl,hS,hI⟩
 have hMl:=hS.length
 have ho:=ahB_ord hw
 by_cases hlt : lo < j
 ·obtain ⟨m,hm⟩ : ∃ m,m = j - 1:=⟨_,rfl⟩
  have hmi : (j : Int) - 1 = (m : Int):=by omega
  obtain ⟨s1,s2,s3,s4⟩:=dH_swap (H0:=H0) (b:=b) (X:=M) (i:=j) (k:=m) (by omega) (by omega)
  have hpj:=(hX.sw hS).at (i:=j) (by omega)
  have hpm:=(hX.sw hS).at (i:=m) (by omega)
  have hcm:=hc.cmp (X:=M) hpj hpm
  have hbig:=hI.big m (by omega) (by omega) (by omega)
  have hla:=ahB_later (L:=L) hbig
  have hst:=hI.step ho (by omega) hlt hji
  have hdn:=hI.done ho hlj
  rw [← hm] at hst hdn
  have hce:=dH_cells (H0:=H0) (b:=b) (X:=M)
  have hsw:=fun h => SwR.step (a:=lo) (b:=i + 1) (L:=X) (M:=M) j m ⟨by omega,by omega,by omega⟩ ⟨by omega,by omega,by omega⟩ h
  subst hv
  have hwr:=worth_range (itm L (gI M j)) (itm L (gI M m))
  have hjn : (j : Int) < (n : Int):=by omega
  have hmn : (m : Int) < (n : Int):=by omega
  have hlj' : (lo : Int) < (j : Int):=by omega
  generalize gI M j = x at *
  generalize gI M m = y at *
  cases hx : ahB L x y with
  | true =>
   have ho:=hla.1 hx
   have h1:=hst hx
   generalize worthI (itm L x) (itm L y) = z at *
   unfold ordC at e3
   simp (disch:=omega) [-getElem?_pos,if_pos,if_neg,decide_eq_true,decide_eq_false,ir_slices_insertionSortCmpFunc_int_l0,e0,e1,e2,e3,e8,e9,hmi,hce,s1,s2,hlj',hjn,hmn,IntWalk.i64_in]
   refine AFnD.of hcm ?_
   simp (disch:=omega) [-getElem?_pos,if_pos,if_neg,decide_eq_true,decide_eq_false,ho,e0,e1,e2,e3,e8,e9,hmi,hce,s1,s2,s3,s4,hjn,hmn,IntWalk.i64_in]
   exact ⟨m,by omega,by simp [e0],by simp [e1],by simp [e2],by simp [e3,ordC],by simp [e8],by simp,by omega,by omega,swI M j m,rfl,hsw hS,h1⟩
  | false =>
   have ho : ¬ worthI (itm L x) (itm L y) < 0:=fun h => by rw [hla.2 h] at hx; cases hx
   have h1:=hdn (.inr hx)
   generalize worthI (itm L x) (itm L y) = z at *
   unfold ordC at e3
   simp (disch:=omega) [-getElem?_pos,if_pos,if_neg,decide_eq_true,decide_eq_false,ir_slices_insertionSortCmpFunc_int_l0,e0,e1,e2,e3,e8,e9,hmi,hce,s1,s2,hlj',hjn,hmn,IntWalk.i64_in]
   refine AFnD.of hcm ?_
   simp (disch:=omega) [-getElem?_pos,if_pos,if_neg,decide_eq_true,decide_eq_false,ho]
   exact ⟨rfl,by simp [e0],by simp [e1],by simp [e2],by simp [e3,ordC],by simp [e8],M,rfl,hS,h1⟩
 ·have h1:=hI.done ho hlj (.inl (by omega))
  simp (disch:=omega) [-getElem?_pos,if_pos,if_neg,decide_eq_true,decide_eq_false,ir_slices_insertionSortCmpFunc_int_l0,e0,e1,e2,e3,e8,e9,show ¬ (lo:Int) < (j:Int) by omega]
  exact ⟨rfl,e0,e1,e2,e3,e8,M,rfl,hS,h1⟩
def InsO (H0 : AH) (b q n lo hi : Nat) (L : List (Int × Int)) (X : List Int) (v : Value) (m : Nat) (env : Env) (H' : AH) : Prop :=
 ∃ i,m = hi - i ∧ env 0 = some v ∧ env 1 = some (.int .i64 (lo : Nat)) ∧ env 2 = some (.int .i64 (hi : Nat)) ∧ env 3 = some (ordC q) ∧ env 8 = some (.int .i64 (i : Nat)) ∧ lo < i ∧ (hi ≤ i → hi = i ∨ hi ≤ lo + 1) ∧ ∃ M,H' = dH H0 b M ∧ SwR lo i X M ∧ SwR lo hi X M ∧ SrtR (ahB L) M lo i
def SrtQ (H0 : AH) (b lo hi : Nat) (L : List (Int × Int)) (X : List Int) (u : Value) (H' : AH) : Prop:=∃ M,H' = dH H0 b M ∧ SwR lo hi X M ∧ SrtR (ahB L) M lo hi
theorem ins_spec {H0 : AH} {b q n lo hi : Nat} {L : List (Int × Int)} {X : List Int} (hXn : X.length = n) (hc : SrtC H0 q b L) (hX : PlIn L X) (hw : ∀ x ∈ L,0 ≤ x.2) (hn : n ≤ 5000) (hh : hi ≤ n) (hlh : lo ≤ hi) (hup : ∀ p q,lo ≤ p → p < q → q < hi → gI X p < gI X q) :
  AFn Try.prog F_slices_insertionSortCmpFunc_int [.slice (some ⟨b,0,none⟩) n n,.int .i64 (lo : Nat),.int .i64 (hi : Nat),ordC q] (dH H0 b X) (SrtQ H0 b lo hi L X):=by
 refine AFn.enter mixed ir_slices_insertionSortCmpFunc_int_eq (by simp [ir_slices_insertionSortCmpFunc_int]) fun hw0 => ?_
 simp (disch:=omega) [-getElem?_pos,if_pos,if_neg,decide_eq_true,decide_eq_false,ir_slices_insertionSortCmpFunc_int,IntWalk.i64_in]
 refine wpC_use (loop_rule (InsO H0 b q n lo hi L X (.slice (some ⟨b,0,none⟩) n n)) (Q:=fun ex env H' => ex = .exit 0 ∧ SrtQ H0 b lo hi L X .nilIface H') ?_ (j:=hi - (lo + 1)) ⟨lo + 1,rfl,by simp,by simp,by simp,by simp,by simp,by omega,by omega,X,rfl,.refl,.refl,fun p q h1 h2 h3 => by omega⟩) fun ex env2 H2 ⟨hex,hq⟩ _ => ?_
 ·rintro m env H' ⟨i,hm,e0,e1,e2,e3,e8,hai,hbi,M,rfl,hS,hS',hs⟩
  by_cases hib : i < hi
  ·simp (disch:=omega) [-getElem?_pos,if_pos,if_neg,decide_eq_true,decide_eq_false,ir_slices_insertionSortCmpFunc_int_l1,e0,e1,e2,e3,e8,show (i:Int) < (hi:Int) by omega]
   have hst : InsR (ahB L) M lo i i:=by
    refine .start hs fun p h1 h2 => ?_
    rw [hS.out (i:=i) (.inr (Nat.le_refl _))]
    exact hS.all (P:=fun y => y < gI X i) (fun k k1 k2 => hup k i k1 k2 hib) p h1 h2
   refine wpC_use (ins_l0 (H0:=H0) (b:=b) (q:=q) (n:=n) (lo:=lo) (hi:=hi) (i:=i) (L:=L) (X:=X) (v:=.slice (some ⟨b,0,none⟩) n n) rfl hXn hc hX hw hn hh hib ⟨by simp [e0],by simp [e1],by simp [e2],by simp [e3],by simp [e8],by simp,by omega,by omega,M,rfl,hS.mono (Nat.le_refl _) (by omega),hst⟩) ?_
   rintro ex env2 H2 ⟨rfl,f0,f1,f2,f3,f8,M2,rfl,hS2,hs2⟩ _
   simp (disch:=omega) [-getElem?_pos,if_pos,if_neg,decide_eq_true,decide_eq_false,f0,f1,f2,f3,f8,IntWalk.i64_in]
   exact ⟨hi - (i + 1),by omega,i + 1,rfl,by simp [f0],by simp [f1],by simp [f2],by simp [f3],by simp,by omega,by omega,M2,rfl,hS2,hS2.mono (Nat.le_refl _) (by omega),hs2⟩
  ·simp (disch:=omega) [-getElem?_pos,if_pos,if_neg,decide_eq_true,decide_eq_false,ir_slices_insertionSortCmpFunc_int_l1,e0,e1,e2,e3,e8,show ¬ (i:Int) < (hi:Int) by omega]
   exact ⟨M,rfl,hS',fun p q h1 h2 h3 => hs p q h1 h2 (by omega)⟩
 ·subst hex
  simp (disch:=omega) [-getElem?_pos,if_pos,if_neg,decide_eq_true,decide_eq_false,]
  exact hq
end Go.Proofs.Ytllfcbacpoaphaa
