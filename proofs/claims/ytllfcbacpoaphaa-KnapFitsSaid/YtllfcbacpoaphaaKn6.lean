/-
  The library's stable sort of at most 40 places, by a closure (5).
-/
import Derived.Test.YtllfcbacpoaphaaKn5
set_option maxRecDepth 100000
set_option linter.unusedSimpArgs false
set_option linter.unusedVariables false
namespace Go.Proofs.Ytllfcbacpoaphaa
open Go Go.Abs
structure Blk20 (L : List (Int × Int)) (X : List Int) (n k : Nat) (M : List Int) : Prop where
 sw : SwR 0 n X M
 s1 : 1 ≤ k → SrtR (ahB L) M 0 20
 s2 : 2 ≤ k → SrtR (ahB L) M 20 40
 run : ∀ p q,p < 20 → 20 ≤ q → q < n → gI M p < gI M q
 rest : ∀ i,20 * k ≤ i → gI M i = gI X i
def St2I (H0 : AH) (b q n : Nat) (L : List (Int × Int)) (X : List Int) (v : Value) (k : Nat) (env : Env) (H' : AH) : Prop :=
 env 0 = some v ∧ env 1 = some (.int .i64 (n : Nat)) ∧ env 2 = some (ordC q) ∧ env 6 = some (.int .i64 20) ∧ env 7 = some (.int .i64 ((20 * k : Nat) : Int)) ∧ env 8 = some (.int .i64 ((20 * k + 20 : Nat) : Int)) ∧ 20 * k ≤ n ∧ ∃ M,H' = dH H0 b M ∧ Blk20 L X n k M
def St2Q (H0 : AH) (b q n : Nat) (L : List (Int × Int)) (X : List Int) (v : Value) (ex : AExit) (env : Env) (H' : AH) : Prop :=
 ex = .exit 0 ∧ ∃ k,env 0 = some v ∧ env 1 = some (.int .i64 (n : Nat)) ∧ env 2 = some (ordC q) ∧ env 6 = some (.int .i64 20) ∧ env 7 = some (.int .i64 ((20 * k : Nat) : Int)) ∧ 20 * k ≤ n ∧ n < 20 * k + 20 ∧ ∃ M,H' = dH H0 b M ∧ Blk20 L X n k M
theorem st_l2 {H0 H : AH} {q b n : Nat} {L : List (Int × Int)} {X : List Int} {v : Value} (hC : MgC H0 q b n L X) (hv : v = .slice (some ⟨b,0,none⟩) n n) (hn : n ≤ 40) (hup : ∀ p q,p < q → q < n → gI X p < gI X q) {env : Env} (h : St2I H0 b q n L X v 0 env H) :
  wpC Try.prog 63 (.loop ir_slices_stableCmpFunc_int_l2) (St2Q H0 b q n L X v) env H:=by
 refine loop_upto 2 (St2I H0 b q n L X v) (Q:=St2Q H0 b q n L X v) h ?_
 rintro k env H' hk ⟨e0,e1,e2,e6,e7,e8,hkn,M,rfl,hB⟩
 have hXn:=hC.len
 obtain ⟨lo,hlo⟩ : ∃ lo,lo = 20 * k:=⟨_,rfl⟩
 obtain ⟨hi,hhi⟩ : ∃ hi,hi = 20 * k + 20:=⟨_,rfl⟩
 rw [← hlo] at e7
 rw [← hhi] at e8
 by_cases hle : hi ≤ n
 ·have hle' : (hi : Int) ≤ (n : Int):=by omega
  have hins:=ins_spec (H0:=H0) (b:=b) (q:=q) (n:=n) (lo:=lo) (hi:=hi) (L:=L) (X:=M) (by rw [hB.sw.length,hXn]) hC.c (hC.pl.sw hB.sw) hC.w hC.n5 hle (by omega) (fun p q h1 h2 h3 => by rw [hB.rest p (by omega),hB.rest q (by omega)]; exact hup p q h2 (by omega))
  subst hv
  unfold ordC at e2 hins
  simp (disch:=omega) [-getElem?_pos,if_pos,if_neg,decide_eq_true,decide_eq_false,ir_slices_stableCmpFunc_int_l2,e0,e1,e2,e6,e7,e8,hle']
  refine hins.mono' fun u H2 w2 ⟨M2,hH2,hS2,hs2⟩ => ?_
  subst hH2
  simp (disch:=omega) [-getElem?_pos,if_pos,if_neg,decide_eq_true,decide_eq_false,e0,e1,e2,e6,e7,e8,IntWalk.i64_in]
  refine ⟨by omega,by simp [e0],by simp [e1],by simp [e2,ordC],by simp [e6],by simp; omega,by simp; omega,by omega,M2,rfl,?_⟩
  have hk01 : k = 0 ∨ k = 1:=by omega
  rcases hk01 with rfl | rfl
  ·obtain rfl : lo = 0:=by omega
   obtain rfl : hi = 20:=by omega
   refine ⟨hB.sw.trans (hS2.mono (Nat.le_refl _) hle),fun _ => hs2,fun h => by omega,SwR.between (a:=0) (mid:=20) (b:=n) (R:=fun x y => x < y) (fun p q _ h2 h3 h4 => hB.run p q h2 h3 h4) (.inl hS2) |> fun h p q h1 h2 h3 => h p q (Nat.zero_le _) h1 h2 h3,fun i h => ?_⟩
   rw [hS2.out (.inr (by omega)),hB.rest i (by omega)]
  ·obtain rfl : lo = 20:=by omega
   obtain rfl : hi = 40:=by omega
   refine ⟨hB.sw.trans (hS2.mono (by omega) hle),fun _ => (hB.s1 (by omega)).of fun i i1 i2 => hS2.out (.inl i2),fun _ => hs2,?_,fun i h => ?_⟩
   ·have hS3 : SwR 20 n M M2:=hS2.mono (Nat.le_refl _) hle
    exact (SwR.between (a:=0) (mid:=20) (b:=n) (R:=fun x y => x < y) (fun p q _ h2 h3 h4 => hB.run p q h2 h3 h4) (.inr hS3)) |> fun h p q h1 h2 h3 => h p q (Nat.zero_le _) h1 h2 h3
   ·rw [hS2.out (.inr (by omega)),hB.rest i (by omega)]
 ·have hle' : ¬ (hi : Int) ≤ (n : Int):=by omega
  simp (disch:=omega) [-getElem?_pos,if_pos,if_neg,decide_eq_true,decide_eq_false,ir_slices_stableCmpFunc_int_l2,e1,e8,hle']
  exact ⟨rfl,k,by simp [e0],by simp [e1],by simp [e2],by simp [e6],by simp [e7,hlo],hkn,by omega,M,rfl,hB⟩
def AllQ (H0 : AH) (b n : Nat) (L : List (Int × Int)) (X : List Int) (H' : AH) : Prop:=∃ M,H' = dH H0 b M ∧ SwR 0 n X M ∧ SrtR (ahB L) M 0 n
def St0I (H0 : AH) (b q n : Nat) (L : List (Int × Int)) (X M : List Int) (v : Value) (k : Nat) (env : Env) (H' : AH) : Prop :=
 env 0 = some v ∧ env 1 = some (.int .i64 (n : Nat)) ∧ env 2 = some (ordC q) ∧ env 6 = some (.int .i64 20) ∧ ((k = 0 ∧ env 7 = some (.int .i64 0) ∧ env 8 = some (.int .i64 40) ∧ H' = dH H0 b M) ∨ (k = 1 ∧ n = 40 ∧ env 7 = some (.int .i64 40) ∧ env 8 = some (.int .i64 80) ∧ AllQ H0 b n L X H'))
def St0Q (H0 : AH) (b q n : Nat) (L : List (Int × Int)) (X M : List Int) (v : Value) (ex : AExit) (env : Env) (H' : AH) : Prop :=
 ex = .exit 4 ∧ env 0 = some v ∧ env 1 = some (.int .i64 (n : Nat)) ∧ env 2 = some (ordC q) ∧ env 6 = some (.int .i64 20) ∧ ((n < 40 ∧ env 7 = some (.int .i64 0) ∧ H' = dH H0 b M) ∨ (n = 40 ∧ env 7 = some (.int .i64 40) ∧ AllQ H0 b n L X H'))
theorem st_l0 {H0 H : AH} {q b n : Nat} {L : List (Int × Int)} {X M : List Int} {v : Value} (hC : MgC H0 q b n L X) (hS : SwR 0 n X M) (hv : v = .slice (some ⟨b,0,none⟩) n n) (hn : n ≤ 40) (h20 : 20 < n) (a1 : SrtR (ahB L) M 0 20) (a2 : SrtR (ahB L) M 20 n) (a3 : RunR M 0 20 n) {env : Env} (h : St0I H0 b q n L X M v 0 env H) :
  wpC Try.prog 63 (.loop ir_slices_stableCmpFunc_int_l0) (St0Q H0 b q n L X M v) env H:=by
 refine loop_upto 1 (St0I H0 b q n L X M v) (Q:=St0Q H0 b q n L X M v) h ?_
 rintro k env H' hk ⟨e0,e1,e2,e6,⟨rfl,e7,e8,rfl⟩ | ⟨rfl,h40,e7,e8,hq⟩⟩
 ·by_cases h4 : n = 40
  ·have hmg:=mg_spec 40 (H0:=H0) (q:=q) (b:=b) (n:=n) (lo:=0) (m:=20) (hi:=40) (by omega) (hC.sw hS) (by omega) (by omega) (by omega) a1 (by rw [← h4]; exact a2) (by rw [← h4]; exact a3)
   have hle : (40 : Int) ≤ (n : Int):=by omega
   subst hv
   unfold ordC at e2 hmg
   simp (disch:=omega) [-getElem?_pos,if_pos,if_neg,decide_eq_true,decide_eq_false,ir_slices_stableCmpFunc_int_l0,e0,e1,e2,e6,e7,e8,hle,IntWalk.i64_in]
   refine (show AFn _ _ [_,.int .i64 ((0 : Nat) : Int),.int .i64 ((20 : Nat) : Int),.int .i64 ((40 : Nat) : Int),_] _ _ from hmg).mono' fun u H2 w2 ⟨M2,hH2,hS2,hs2⟩ => ?_
   subst hH2
   simp (disch:=omega) [-getElem?_pos,if_pos,if_neg,decide_eq_true,decide_eq_false,e0,e1,e2,e6,e7,e8,IntWalk.i64_in]
   refine ⟨by simp [e0],by simp [e1],by simp [e2,ordC],by simp [e6],.inr ⟨rfl,h4,by simp,by simp,M2,rfl,?_,?_⟩⟩
   ·rw [h4] at hS ⊢; exact hS.trans hS2
   ·rw [h4]; exact hs2
  ·have hle : ¬ (40 : Int) ≤ (n : Int):=by omega
   simp (disch:=omega) [-getElem?_pos,if_pos,if_neg,decide_eq_true,decide_eq_false,ir_slices_stableCmpFunc_int_l0,e0,e1,e2,e6,e7,e8,hle]
   exact ⟨rfl,e0,e1,e2,e6,.inl ⟨by omega,e7,rfl⟩⟩
 ·have hle : ¬ (80 : Int) ≤ (n : Int):=by omega
  simp (disch:=omega) [-getElem?_pos,if_pos,if_neg,decide_eq_true,decide_eq_false,ir_slices_stableCmpFunc_int_l0,e0,e1,e2,e6,e7,e8,hle]
  exact ⟨rfl,e0,e1,e2,e6,.inr ⟨h40,e7,hq⟩⟩
def St1I (H0 : AH) (b q n : Nat) (L : List (Int × Int)) (X M : List Int) (v : Value) (k : Nat) (env : Env) (H' : AH) : Prop :=
 env 0 = some v ∧ env 1 = some (.int .i64 (n : Nat)) ∧ env 2 = some (ordC q) ∧ ((k = 0 ∧ env 6 = some (.int .i64 20) ∧ H' = dH H0 b M) ∨ (k = 1 ∧ env 6 = some (.int .i64 40) ∧ AllQ H0 b n L X H'))
theorem st_l1 {H0 H : AH} {q b n : Nat} {L : List (Int × Int)} {X M : List Int} {v : Value} (hC : MgC H0 q b n L X) (hS : SwR 0 n X M) (hv : v = .slice (some ⟨b,0,none⟩) n n) (hn : n ≤ 40) (a1 : 20 < n → SrtR (ahB L) M 0 20 ∧ SrtR (ahB L) M 20 n ∧ RunR M 0 20 n) (a0 : n ≤ 20 → SrtR (ahB L) M 0 n) {env : Env} (h : St1I H0 b q n L X M v 0 env H) :
  wpC Try.prog 63 (.loop ir_slices_stableCmpFunc_int_l1) (fun ex env' H' => ex = .exit 2 ∧ AllQ H0 b n L X H') env H:=by
 refine loop_upto 1 (St1I H0 b q n L X M v) (Q:=fun ex env' H' => ex = .exit 2 ∧ AllQ H0 b n L X H') h ?_
 rintro k env H' hk ⟨e0,e1,e2,⟨rfl,e6,rfl⟩ | ⟨rfl,e6,hq⟩⟩
 ·by_cases h20 : 20 < n
  ·have h20' : (20 : Int) < (n : Int):=by omega
   obtain ⟨b1,b2,b3⟩:=a1 h20
   simp (disch:=omega) [-getElem?_pos,if_pos,if_neg,decide_eq_true,decide_eq_false,ir_slices_stableCmpFunc_int_l1,e0,e1,e2,e6,h20',IntWalk.i64_in]
   refine wpC_use (st_l0 (H0:=H0) (q:=q) (b:=b) (n:=n) (L:=L) (X:=X) (M:=M) (v:=v) hC hS hv hn h20 b1 b2 b3 ⟨by simp [e0],by simp [e1],by simp [e2],by simp [e6],.inl ⟨rfl,by simp,by simp,rfl⟩⟩) ?_
   rintro ex env2 H2 ⟨rfl,f0,f1,f2,f6,⟨h4,f7,rfl⟩ | ⟨h4,f7,hq⟩⟩ _
   ·have hmg:=mg_spec 40 (H0:=H0) (q:=q) (b:=b) (n:=n) (lo:=0) (m:=20) (hi:=n) (by omega) (hC.sw hS) (by omega) h20 (Nat.le_refl _) b1 b2 b3
    subst hv
    unfold ordC at f2 hmg
    simp (disch:=omega) [-getElem?_pos,if_pos,if_neg,decide_eq_true,decide_eq_false,f0,f1,f2,f6,f7,h20',IntWalk.i64_in]
    refine (show AFn _ _ [_,.int .i64 ((0 : Nat) : Int),.int .i64 ((20 : Nat) : Int),.int .i64 (n : Int),_] _ _ from hmg).mono' fun u H3 w3 ⟨M2,hH2,hS2,hs2⟩ => ?_
    subst hH2
    simp (disch:=omega) [-getElem?_pos,if_pos,if_neg,decide_eq_true,decide_eq_false,f0,f1,f2,f6,IntWalk.i64_in]
    exact ⟨by simp [f0],by simp [f1],by simp [f2,ordC],.inr ⟨rfl,by simp,M2,rfl,hS.trans hS2,hs2⟩⟩
   ·have h60 : ¬ (60 : Int) < (n : Int):=by omega
    simp (disch:=omega) [-getElem?_pos,if_pos,if_neg,decide_eq_true,decide_eq_false,f0,f1,f2,f6,f7,h60,IntWalk.i64_in]
    exact ⟨by simp [f0],by simp [f1],by simp [f2],.inr ⟨rfl,by simp,hq⟩⟩
  ·have h20' : ¬ (20 : Int) < (n : Int):=by omega
   simp (disch:=omega) [-getElem?_pos,if_pos,if_neg,decide_eq_true,decide_eq_false,ir_slices_stableCmpFunc_int_l1,e0,e1,e2,e6,h20']
   exact ⟨M,rfl,hS,a0 (by omega)⟩
 ·have h40 : ¬ (40 : Int) < (n : Int):=by omega
  simp (disch:=omega) [-getElem?_pos,if_pos,if_neg,decide_eq_true,decide_eq_false,ir_slices_stableCmpFunc_int_l1,e0,e1,e2,e6,h40]
  exact hq
theorem stable_spec {H0 : AH} {q b n : Nat} {L : List (Int × Int)} {X : List Int} (hC : MgC H0 q b n L X) (hn : n ≤ 40) (hup : ∀ p q,p < q → q < n → gI X p < gI X q) :
  AFn Try.prog F_slices_SortStableFunc_Lint_int [.slice (some ⟨b,0,none⟩) n n,ordC q] (dH H0 b X) fun _ H' => AllQ H0 b n L X H':=by
 refine AFn.enter mixed ir_slices_SortStableFunc_Lint_int_eq (by simp [ir_slices_SortStableFunc_Lint_int]) fun hw0 => ?_
 have hst : AFn Try.prog F_slices_stableCmpFunc_int [.slice (some ⟨b,0,none⟩) n n,.int .i64 (n : Int),ordC q] (dH H0 b X) fun _ H' => AllQ H0 b n L X H':=by
  refine AFn.enter mixed ir_slices_stableCmpFunc_int_eq (by simp [ir_slices_stableCmpFunc_int]) fun hw1 => ?_
  have hXn:=hC.len
  simp (disch:=omega) [-getElem?_pos,if_pos,if_neg,decide_eq_true,decide_eq_false,ir_slices_stableCmpFunc_int]
  refine wpC_use (st_l2 (H0:=H0) (q:=q) (b:=b) (n:=n) (L:=L) (X:=X) (v:=.slice (some ⟨b,0,none⟩) n n) hC rfl hn hup ⟨by simp,by simp,by simp,by simp,by simp,by simp,by omega,X,rfl,.refl,fun h => by omega,fun h => by omega,fun p q h1 h2 h3 => hup p q (by omega) h3,fun _ _ => rfl⟩) ?_
  rintro ex env2 H2 ⟨rfl,k,f0,f1,f2,f6,f7,hk1,hk2,M,rfl,hB⟩ _
  obtain ⟨lo,hlo⟩ : ∃ lo,lo = 20 * k:=⟨_,rfl⟩
  rw [← hlo] at f7
  have hins:=ins_spec (H0:=H0) (b:=b) (q:=q) (n:=n) (lo:=lo) (hi:=n) (L:=L) (X:=M) (by rw [hB.sw.length,hXn]) hC.c (hC.pl.sw hB.sw) hC.w hC.n5 (Nat.le_refl _) (by omega) (fun p q h1 h2 h3 => by rw [hB.rest p (by omega),hB.rest q (by omega)]; exact hup p q h2 h3)
  unfold ordC at f2 hins
  simp (disch:=omega) [-getElem?_pos,if_pos,if_neg,decide_eq_true,decide_eq_false,f0,f1,f2,f6,f7]
  refine hins.mono' fun u H3 w3 ⟨M2,hH2,hS2,hs2⟩ => ?_
  subst hH2
  simp (disch:=omega) [-getElem?_pos,if_pos,if_neg,decide_eq_true,decide_eq_false,]
  have hS12 : SwR 0 n X M2:=hB.sw.trans (hS2.mono (by omega) (Nat.le_refl _))
  refine wpC_use (st_l1 (H0:=H0) (q:=q) (b:=b) (n:=n) (L:=L) (X:=X) (M:=M2) (v:=.slice (some ⟨b,0,none⟩) n n) hC hS12 rfl hn (fun h20 => ?_) (fun h20 => ?_) ⟨by simp [f0],by simp [f1],by simp [f2,ordC],.inl ⟨rfl,by simp [f6],rfl⟩⟩) ?_
  ·have hk12 : k = 1 ∨ k = 2:=by omega
   rcases hk12 with rfl | rfl
   ·obtain rfl : lo = 20:=by omega
    refine ⟨(hB.s1 (by omega)).of fun i i1 i2 => hS2.out (.inl i2),hs2,?_⟩
    exact SwR.between (R:=fun x y => x < y) (fun p q _ h2 h3 h4 => hB.run p q h2 h3 h4) (.inr hS2)
   ·obtain rfl : lo = 40:=by omega
    obtain rfl : n = 40:=by omega
    refine ⟨(hB.s1 (by omega)).of fun i i1 i2 => hS2.out (.inl (by omega)),(hB.s2 (by omega)).of fun i i1 i2 => hS2.out (.inl (by omega)),?_⟩
    exact SwR.between (R:=fun x y => x < y) (fun p q _ h2 h3 h4 => hB.run p q h2 h3 h4) (.inr (hS2.mono (by omega) (Nat.le_refl _)))
  ·have hk01 : k = 0 ∨ k = 1:=by omega
   rcases hk01 with rfl | rfl
   ·obtain rfl : lo = 0:=by omega
    exact hs2
   ·obtain rfl : n = 20:=by omega
    exact (hB.s1 (by omega)).of fun i i1 i2 => hS2.out (.inl (by omega))
  ·rintro ex env3 H4 ⟨rfl,hq⟩ _
   simp (disch:=omega) [-getElem?_pos,if_pos,if_neg,decide_eq_true,decide_eq_false,]
   exact hq
 unfold ordC at hst ⊢
 simp (disch:=omega) [-getElem?_pos,if_pos,if_neg,decide_eq_true,decide_eq_false,ir_slices_SortStableFunc_Lint_int]
 refine hst.mono' fun u H2 w2 hq => ?_
 simp (disch:=omega) [-getElem?_pos,if_pos,if_neg,decide_eq_true,decide_eq_false,]
 exact hq
end Go.Proofs.Ytllfcbacpoaphaa
