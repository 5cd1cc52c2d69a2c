/-
  Layer 15: how many states there are at most: the program's answer and the document's.
-/
import Derived.Test.YtlcddhgfkkjhkaaDoorBG
import Derived.Test.YtlcddhgfkkjhkaaDoorTP
import Derived.Test.YtlcddhgfkkjhkaaDoorIr15z
import Derived.Test.YtlcddhgfkkjhkaaDoorIrT
set_option maxRecDepth 100000
set_option linter.unusedSimpArgs false
set_option linter.unusedVariables false
namespace Go.Abs
open Go Go.Proofs.YtlcddhgfkkjhkaaDoor
theorem fits_nat {a : Nat} : fitsI (a : Int) = decide (a ≤ 9223372036854775807):=by
 unfold fitsI
 exact decide_eq_decide.2 (by omega)
end Go.Abs
namespace Go.Proofs.YtlcddhgfkkjhkaaDoor
open Go Go.Abs
def TwI (H : AH) (n : Int) (k : Nat) (env : Env) (H' : AH) : Prop :=
 H' = H ∧ env 10 = some (.int .i64 n) ∧ env 11 = some (.int .i64 k) ∧ env 4 = some (.int .i64 (smF (fun _ => 2) k)) ∧ env 5 = some (.bool true) ∧ smF (fun _ => 2) k ≤ 9223372036854775807
def SzQ (H : AH) (f : Nat → Nat) (n : Nat) (c a b : Nat) (e : AExit) (env : Env) (H' : AH) : Prop :=
 H' = H ∧ ((e = .exit 0 ∧ env c = some (.int .i64 (smF f n)) ∧ smF f n ≤ 9223372036854775807) ∨ (e = .ret ∧ env a = some (.int .i64 0) ∧ env b = some (.bool false) ∧ 9223372036854775807 < smF f n))
def TwQ (H : AH) (n : Nat) (e : AExit) (env : Env) (H' : AH) : Prop:=SzQ H (fun _ => 2) n 4 2 3 e env H' ∧ (e = .exit 0 → env 5 = some (.bool true))
theorem twos_l0 {H : AH} {n : Nat} (hn : n ≤ 9223372036854775807) {env : Env} (h : TwI H n 0 env H) : wpC Tryd.prog 33 (.loop ir_tree_twos_l0) (TwQ H n) env H:=by
 refine loop_upto n (TwI H n) (Q:=TwQ H n) h ?_
 rintro k env H' hk ⟨rfl,e10,e11,e4,e5,hf⟩
 by_cases hkn : k < n
 ·have hM:=MulI_spec (H:=H') (a:=(smF (fun _ => 2) k : Int)) (b:=2) (by unfold I64; omega) (by unfold I64; omega)
  have hst:=smF_two_step k
  have hmo:=smF_mono (fun _ => 2) (show k + 1 ≤ n by omega)
  have hpos:=smF_pos (fun _ => 2) k
  have hrd : ∀ env2 : Env,env2 10 = some (.int .i64 n) → env2 11 = some (.int .i64 ((k : Int) + 1)) → env2 4 = some (.int .i64 (2 * (smF (fun _ => 2) k : Int) + 1)) → env2 5 = some (.bool true) → smF (fun _ => 2) (k + 1) ≤ 9223372036854775807 → TwI H' n (k + 1) env2 H':=fun env2 f10 f11 f4 f5 hle =>
   ⟨rfl,f10,by rw [f11]; simp,by rw [f4,hst]; simp,f5,hle⟩
  have hbad : 9223372036854775807 < smF (fun _ => 2) (k + 1) → 9223372036854775807 < smF (fun _ => 2) n:=fun h => by omega
  generalize smF (fun _ => 2) (k + 1) = s1 at *
  generalize smF (fun _ => 2) k = s at *
  have hcm : (s : Int) * 2 = 2 * s:=by omega
  rw [hcm] at hM
  simp (disch:=omega) [-getElem?_pos,if_pos,if_neg,decide_eq_true,decide_eq_false,ir_tree_twos_l0,e10,e11,e4,e5,hkn]
  refine AFn.pure hM ?_
  by_cases h1 : s1 ≤ 9223372036854775807
  ·have hf2 : fitsI (2 * (s : Int)) = true:=by unfold fitsI; exact decide_eq_true (by omega)
   have hs2 : shortI (2 * (s : Int)) = 2 * s:=by unfold shortI; rw [if_pos hf2]
   have hA:=AddI_spec (H:=H') (a:=2 * (s : Int)) (b:=1) (by unfold I64; omega) (by unfold I64; omega)
   have hf3 : fitsI (2 * (s : Int) + 1) = true:=by unfold fitsI; exact decide_eq_true (by omega)
   have hs3 : shortI (2 * (s : Int) + 1) = 2 * s + 1:=by unfold shortI; rw [if_pos hf3]
   rw [hf3,hs3] at hA
   rw [hf2,hs2]
   simp (disch:=omega) [-getElem?_pos,if_pos,if_neg,decide_eq_true,decide_eq_false,]
   refine AFn.pure hA ?_
   simp (disch:=omega) [-getElem?_pos,if_pos,if_neg,decide_eq_true,decide_eq_false,e10,e11,IntWalk.i64_in]
   refine ⟨hkn,hrd _ ?_ ?_ ?_ ?_ h1⟩ <;> simp [e10]
  ·have hA:=AddI_spec (H:=H') (a:=shortI (2 * (s : Int))) (b:=1) (by unfold I64 shortI fitsI; split <;> (rename_i h; simp at h; omega)) (by unfold I64; omega)
   have hff : fitsI (2 * (s : Int)) = true → fitsI (shortI (2 * (s : Int)) + 1) = false:=fun h => by
    unfold shortI
    rw [if_pos h]
    unfold fitsI
    exact decide_eq_false (by omega)
   generalize shortI (2 * (s : Int)) = y at *
   generalize shortI (y + 1) = y1 at *
   generalize fitsI (y + 1) = b1 at *
   cases hb : fitsI (2 * (s : Int)) with
   | true =>
    have:=hff hb
    subst this
    simp (disch:=omega) [-getElem?_pos,if_pos,if_neg,decide_eq_true,decide_eq_false,]
    refine AFn.pure hA ?_
    simp (disch:=omega) [-getElem?_pos,if_pos,if_neg,decide_eq_true,decide_eq_false,e10,e11,IntWalk.i64_in]
    exact ⟨⟨rfl,.inr ⟨rfl,by simp,by simp,hbad (by omega)⟩⟩,by simp⟩
   | false =>
    simp (disch:=omega) [-getElem?_pos,if_pos,if_neg,decide_eq_true,decide_eq_false,]
    refine AFn.pure hA ?_
    simp (disch:=omega) [-getElem?_pos,if_pos,if_neg,decide_eq_true,decide_eq_false,e10,e11,IntWalk.i64_in]
    exact ⟨⟨rfl,.inr ⟨rfl,by simp,by simp,hbad (by omega)⟩⟩,by simp⟩
 ·obtain rfl : k = n:=by omega
  simp (disch:=omega) [-getElem?_pos,if_pos,if_neg,decide_eq_true,decide_eq_false,ir_tree_twos_l0,e10,e11,e4,e5]
  exact ⟨⟨rfl,.inl ⟨rfl,e4,hf⟩⟩,fun _ => e5⟩
def FlI (H : AH) (n k : Nat) (env : Env) (H' : AH) : Prop :=
 H' = H ∧ env 0 = some (.int .i64 n) ∧ env 11 = some (.int .i64 n) ∧ env 12 = some (.int .i64 k) ∧ env 4 = some (.int .i64 (smF (fun j => n - j) k)) ∧ env 5 = some (.int .i64 (prd (fun j => n - j) k)) ∧ smF (fun j => n - j) k ≤ 9223372036854775807
theorem falls_l0 {H : AH} {n : Nat} (hn : n ≤ 9223372036854775807) {env : Env} (h : FlI H n 0 env H) : wpC Tryd.prog 39 (.loop ir_tree_falls_l0) (SzQ H (fun j => n - j) n 4 2 3) env H:=by
 refine loop_upto n (FlI H n) (Q:=SzQ H (fun j => n - j) n 4 2 3) h ?_
 rintro k env H' hk ⟨rfl,e0,e11,e12,e4,e5,hf⟩
 have hps:=prd_le_smF (fun j => n - j) k
 by_cases hkn : k < n
 ·have hM:=MulI_spec (H:=H') (a:=(prd (fun j => n - j) k : Int)) (b:=(n : Int) - k) (by unfold I64; omega) (by unfold I64; omega)
  have hpr : ((prd (fun j => n - j) (k + 1) : Nat) : Int) = (prd (fun j => n - j) k : Int) * ((n : Int) - k):=by
   rw [prd,Int.natCast_mul]
   congr 1
   show ((n - k : Nat) : Int) = _
   omega
  have hss : smF (fun j => n - j) (k + 1) = smF (fun j => n - j) k + prd (fun j => n - j) (k + 1):=rfl
  have hmo:=smF_mono (fun j => n - j) (show k + 1 ≤ n by omega)
  rw [← hpr] at hM
  have hrd : ∀ env2 : Env,env2 0 = some (.int .i64 n) → env2 11 = some (.int .i64 n) → env2 12 = some (.int .i64 ((k : Int) + 1)) → env2 4 = some (.int .i64 ((smF (fun j => n - j) k : Int) + (prd (fun j => n - j) (k + 1) : Nat))) → env2 5 = some (.int .i64 (prd (fun j => n - j) (k + 1) : Nat)) → smF (fun j => n - j) (k + 1) ≤ 9223372036854775807 → FlI H' n (k + 1) env2 H':=fun env2 f0 f11 f12 f4 f5 hle =>
   ⟨rfl,f0,f11,by rw [f12]; simp,by rw [f4,hss]; simp,f5,hle⟩
  have hbad : 9223372036854775807 < smF (fun j => n - j) (k + 1) → 9223372036854775807 < smF (fun j => n - j) n:=fun h => by omega
  have hnk : IntKind.i64.wrap ((n : Int) - k) = (n : Int) - k:=IntWalk.i64_in _ (by omega)
  clear hpr
  generalize smF (fun j => n - j) (k + 1) = s1 at *
  generalize smF (fun j => n - j) k = s at *
  generalize prd (fun j => n - j) (k + 1) = p1 at *
  generalize prd (fun j => n - j) k = p at *
  simp (disch:=omega) [-getElem?_pos,if_pos,if_neg,decide_eq_true,decide_eq_false,ir_tree_falls_l0,e0,e11,e12,e4,e5,hkn,hnk]
  refine AFn.pure hM ?_
  by_cases h1 : s1 ≤ 9223372036854775807
  ·have hf2 : fitsI (p1 : Int) = true:=by unfold fitsI; exact decide_eq_true (by omega)
   have hs2 : shortI (p1 : Int) = p1:=by unfold shortI; rw [if_pos hf2]
   have hA:=AddI_spec (H:=H') (a:=(s : Int)) (b:=(p1 : Int)) (by unfold I64; omega) (by unfold I64; omega)
   have hf3 : fitsI ((s : Int) + p1) = true:=by unfold fitsI; exact decide_eq_true (by omega)
   have hs3 : shortI ((s : Int) + p1) = s + p1:=by unfold shortI; rw [if_pos hf3]
   rw [hf3,hs3] at hA
   rw [hf2,hs2]
   simp (disch:=omega) [-getElem?_pos,if_pos,if_neg,decide_eq_true,decide_eq_false,e4]
   refine AFn.pure hA ?_
   simp (disch:=omega) [-getElem?_pos,if_pos,if_neg,decide_eq_true,decide_eq_false,e0,e11,e12,IntWalk.i64_in]
   refine ⟨hkn,hrd _ ?_ ?_ ?_ ?_ ?_ h1⟩ <;> simp [e0,e11]
  ·have hA:=AddI_spec (H:=H') (a:=(s : Int)) (b:=shortI (p1 : Int)) (by unfold I64; omega) (by unfold I64 shortI fitsI; split <;> (rename_i h; simp at h; omega))
   have hff : fitsI (p1 : Int) = true → fitsI ((s : Int) + shortI (p1 : Int)) = false:=fun h => by
    unfold shortI
    rw [if_pos h]
    unfold fitsI
    exact decide_eq_false (by omega)
   generalize shortI (p1 : Int) = y at *
   generalize shortI ((s : Int) + y) = y1 at *
   generalize fitsI ((s : Int) + y) = b1 at *
   cases hb : fitsI (p1 : Int) with
   | true =>
    have:=hff hb
    subst this
    simp (disch:=omega) [-getElem?_pos,if_pos,if_neg,decide_eq_true,decide_eq_false,e4]
    refine AFn.pure hA ?_
    simp (disch:=omega) [-getElem?_pos,if_pos,if_neg,decide_eq_true,decide_eq_false,e0,e11,e12,IntWalk.i64_in]
    exact ⟨rfl,.inr ⟨rfl,by simp,by simp,hbad (by omega)⟩⟩
   | false =>
    simp (disch:=omega) [-getElem?_pos,if_pos,if_neg,decide_eq_true,decide_eq_false,e4]
    refine AFn.pure hA ?_
    simp (disch:=omega) [-getElem?_pos,if_pos,if_neg,decide_eq_true,decide_eq_false,e0,e11,e12,IntWalk.i64_in]
    exact ⟨rfl,.inr ⟨rfl,by simp,by simp,hbad (by omega)⟩⟩
 ·obtain rfl : k = n:=by omega
  simp (disch:=omega) [-getElem?_pos,if_pos,if_neg,decide_eq_true,decide_eq_false,ir_tree_falls_l0,e0,e11,e12,e4,e5]
  exact ⟨rfl,.inl ⟨rfl,e4,hf⟩⟩
theorem szR (a : Nat) : (a ≤ 9223372036854775807 → shortI (a : Int) = a ∧ fitsI (a : Int) = true) ∧ (9223372036854775807 < a → shortI (a : Int) = 0 ∧ fitsI (a : Int) = false):=by
 constructor
 ·intro h
  have hf : fitsI (a : Int) = true:=by rw [fits_nat]; exact decide_eq_true h
  exact ⟨by unfold shortI; rw [if_pos hf],hf⟩
 ·intro h
  have hf : fitsI (a : Int) = false:=by rw [fits_nat]; exact decide_eq_false (by omega)
  exact ⟨by unfold shortI; rw [hf]; rfl,hf⟩
theorem twosT_spec {H : AH} {n : Nat} (hn : n ≤ 9223372036854775807) : AFn Tryd.prog F_tree_twos [.int .i64 n] H fun u H' => u = .tuple #[.int .i64 (shortI (smF (fun _ => 2) n)),.bool (fitsI (smF (fun _ => 2) n))] ∧ H' = H:=by
 refine AFn.enter mixed ir_tree_twos_eq (by simp [ir_tree_twos]) fun hw => ?_
 have hz:=szR (smF (fun _ => 2) n)
 simp (disch:=omega) [-getElem?_pos,if_pos,if_neg,decide_eq_true,decide_eq_false,ir_tree_twos]
 refine wpC_use (twos_l0 hn ⟨rfl,by simp,by simp,by simp [smF],by simp,by simp [smF]⟩) ?_
 rintro e env2 H2 ⟨⟨rfl,⟨rfl,e4,hle⟩ | ⟨rfl,e2,e3,hlt⟩⟩,e5⟩ hu
 ·obtain ⟨z1,z2⟩:=hz.1 hle
  have e5:=e5 rfl
  rw [z1,z2]
  simp (disch:=omega) [-getElem?_pos,if_pos,if_neg,decide_eq_true,decide_eq_false,e4,e5]
 ·obtain ⟨z1,z2⟩:=hz.2 hlt
  rw [z1,z2]
  simp (disch:=omega) [-getElem?_pos,if_pos,if_neg,decide_eq_true,decide_eq_false,e2,e3]
theorem fallsT_spec {H : AH} {n : Nat} (hn : n ≤ 9223372036854775807) : AFn Tryd.prog F_tree_falls [.int .i64 n] H fun u H' => u = .tuple #[.int .i64 (shortI (smF (fun j => n - j) n)),.bool (fitsI (smF (fun j => n - j) n))] ∧ H' = H:=by
 refine AFn.enter mixed ir_tree_falls_eq (by simp [ir_tree_falls]) fun hw => ?_
 have hz:=szR (smF (fun j => n - j) n)
 simp (disch:=omega) [-getElem?_pos,if_pos,if_neg,decide_eq_true,decide_eq_false,ir_tree_falls]
 refine wpC_use (falls_l0 hn ⟨rfl,by simp,by simp,by simp,by simp [smF],by simp [prd],by simp [smF]⟩) ?_
 rintro e env2 H2 ⟨rfl,⟨rfl,e4,hle⟩ | ⟨rfl,e2,e3,hlt⟩⟩ hu
 ·obtain ⟨z1,z2⟩:=hz.1 hle
  rw [z1,z2]
  simp (disch:=omega) [-getElem?_pos,if_pos,if_neg,decide_eq_true,decide_eq_false,e4]
 ·obtain ⟨z1,z2⟩:=hz.2 hlt
  rw [z1,z2]
  simp (disch:=omega) [-getElem?_pos,if_pos,if_neg,decide_eq_true,decide_eq_false,e2,e3]
def szV (k n : Int) : Value:=if 0 ≤ n ∧ 0 ≤ k ∧ k ≤ 3 then .tuple #[.int .i64 (shortI (szT k n.toNat)),.bool (fitsI (szT k n.toNat))] else .tuple #[.int .i64 0,.bool false]
theorem TSize_spec {H : AH} {k n : Int} (hn : I64 n) : AFn Tryd.prog F_tree_Size [.int .i64 k,.int .i64 n] H fun u H' => u = szV k n ∧ H' = H:=by
 refine AFn.enter mixed ir_tree_Size_eq (by simp [ir_tree_Size]) fun hw => ?_
 obtain ⟨n1,n2⟩:=hn
 unfold szV
 by_cases h0 : n < 0
 ·rw [if_neg (by omega)]
  simp (disch:=omega) [-getElem?_pos,if_pos,if_neg,decide_eq_true,decide_eq_false,ir_tree_Size,h0]
 ·obtain ⟨m,rfl⟩ : ∃ m : Nat,n = m:=⟨n.toNat,by omega⟩
  have ht:=twosT_spec (H:=H) (n:=m) (by omega)
  have hf:=fallsT_spec (H:=H) (n:=m) (by omega)
  rw [Int.toNat_natCast]
  by_cases hk : k = 0 ∨ k = 3
  ·rw [if_pos (by omega)]
   have hz : szT k m = smF (fun _ => 2) m:=by unfold szT szF; rw [if_pos hk]
   rw [hz]
   generalize smF (fun _ => 2) m = s at *
   generalize shortI (s : Int) = x at *
   generalize fitsI (s : Int) = y at *
   by_cases k0 : k = 0
   ·have k0T:=eq_true k0
    simp (disch:=omega) [-getElem?_pos,if_pos,if_neg,decide_eq_true,decide_eq_false,ir_tree_Size,h0,k0T]
    refine AFn.pure ht ?_
    simp (disch:=omega) [-getElem?_pos,if_pos,if_neg,decide_eq_true,decide_eq_false,]
   ·have k0F:=eq_false k0
    have k3T:=eq_true (show k = 3 by omega)
    simp (disch:=omega) [-getElem?_pos,if_pos,if_neg,decide_eq_true,decide_eq_false,ir_tree_Size,h0,k0F,k3T]
    refine AFn.pure ht ?_
    simp (disch:=omega) [-getElem?_pos,if_pos,if_neg,decide_eq_true,decide_eq_false,]
  ·have hz : szT k m = smF (fun j => m - j) m:=by unfold szT szF; rw [if_neg hk]
   have k0F:=eq_false (show k ≠ 0 by omega)
   have k3F:=eq_false (show k ≠ 3 by omega)
   by_cases k1 : k = 1
   ·rw [if_pos (by omega),hz]
    generalize smF (fun j => m - j) m = s at *
    generalize shortI (s : Int) = x at *
    generalize fitsI (s : Int) = y at *
    have k1T:=eq_true k1
    simp (disch:=omega) [-getElem?_pos,if_pos,if_neg,decide_eq_true,decide_eq_false,ir_tree_Size,h0,k0F,k3F,k1T]
    refine AFn.pure hf ?_
    simp (disch:=omega) [-getElem?_pos,if_pos,if_neg,decide_eq_true,decide_eq_false,]
   ·have k1F:=eq_false k1
    by_cases k2 : k = 2
    ·rw [if_pos (by omega),hz]
     generalize smF (fun j => m - j) m = s at *
     generalize shortI (s : Int) = x at *
     generalize fitsI (s : Int) = y at *
     have k2T:=eq_true k2
     simp (disch:=omega) [-getElem?_pos,if_pos,if_neg,decide_eq_true,decide_eq_false,ir_tree_Size,h0,k0F,k3F,k1F,k2T]
     refine AFn.pure hf ?_
     simp (disch:=omega) [-getElem?_pos,if_pos,if_neg,decide_eq_true,decide_eq_false,]
    ·have k2F:=eq_false k2
     rw [if_neg (by omega)]
     simp (disch:=omega) [-getElem?_pos,if_pos,if_neg,decide_eq_true,decide_eq_false,ir_tree_Size,h0,k0F,k3F,k1F,k2F]
/-! ### the document's answer -/
end Go.Proofs.YtlcddhgfkkjhkaaDoor
