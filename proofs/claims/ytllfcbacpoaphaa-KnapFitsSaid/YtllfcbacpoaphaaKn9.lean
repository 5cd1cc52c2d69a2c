/-
  package ratio: Make.
-/
import Derived.Test.YtllfcbacpoaphaaKn8
set_option maxRecDepth 100000
set_option linter.unusedSimpArgs false
set_option linter.unusedVariables false
namespace Go.Abs
open Go
theorem gcd_far {n d : Int} (hn : I64 n) (hd : I64 d) (h0 : d ≠ 0) (hg : ¬ (Int.gcd n d : Int) ≤ 9223372036854775807) : d = -9223372036854775808 ∧ (n = 0 ∨ n = -9223372036854775808) ∧ Int.gcd n d = 9223372036854775808:=by
 obtain ⟨n1,n2⟩:=hn
 obtain ⟨d1,d2⟩:=hd
 have hle : Int.gcd n d ≤ d.natAbs:=Nat.le_of_dvd (by omega) (Int.gcd_dvd_natAbs_right ..)
 have hG : Int.gcd n d = 9223372036854775808:=by omega
 refine ⟨by omega,?_,hG⟩
 have hdv : (Int.gcd n d) ∣ n.natAbs:=Int.gcd_dvd_natAbs_left ..
 rw [hG] at hdv
 obtain ⟨c,hc⟩:=hdv
 by_cases hn0 : n = 0
 ·exact .inl hn0
 ·right; omega
theorem mk_quot {n d : Int} (h0 : d ≠ 0) : n / (if d < 0 then -(Int.gcd n d : Int) else (Int.gcd n d : Int)) = mkA n d ∧ d / (if d < 0 then -(Int.gcd n d : Int) else (Int.gcd n d : Int)) = mkB n d:=by
 have h1 : (Int.gcd n d : Int) ∣ n:=Int.gcd_dvd_left ..
 have h2 : (Int.gcd n d : Int) ∣ d:=Int.gcd_dvd_right ..
 unfold mkA mkB
 by_cases hd : d < 0
 ·simp only [hd,if_true]
  rw [Int.ediv_neg,Int.ediv_neg,Int.neg_ediv_of_dvd h1,Int.neg_ediv_of_dvd h2]
  exact ⟨rfl,rfl⟩
 ·simp only [hd,if_false]
  exact ⟨trivial,trivial⟩
end Go.Abs
namespace Go.Proofs.Ytllfcbacpoaphaa
open Go Go.Abs
theorem Make_spec {H : AH} {n d : Int} (hn : I64 n) (hd : I64 d) : AFn Try.prog F_ratio_Make [.int .i64 n,.int .i64 d] H fun u H' => u = .tuple #[.agg #[.int .i64 (mkNum n d),.int .i64 (mkDen n d)],.bool (mkOk n d)] ∧ Keep [] H H':=by
 refine AFn.enter mixed ir_ratio_Make_eq (by simp [ir_ratio_Make]) fun hw => ?_
 have hz0 : ∀ (H : AH) (x : Blk),Keep [] H (H.alloc x):=fun _ _ => .alloc
 by_cases h0 : d = 0
 ·subst h0
  have e1 : mkOk n 0 = false:=by unfold mkOk; simp
  have e2 : mkNum n 0 = 0:=by unfold mkNum; rw [e1]; rfl
  have e3 : mkDen n 0 = 0:=by unfold mkDen; rw [e1]; rfl
  rw [e1,e2,e3]
  simp (disch:=omega) [-getElem?_pos,if_pos,if_neg,decide_eq_true,decide_eq_false,ir_ratio_Make,writeA,over,cut2i]
  exact .alloc
 ·have h0':=eq_false h0
  have hG:=fun H => Gcd_spec (H:=H) hn hd
  obtain ⟨hg0,hA,hB,hBp⟩:=mk_exact (n:=n) h0
  by_cases hf : (Int.gcd n d : Int) ≤ 9223372036854775807
  ·have f1 : fitsI (Int.gcd n d : Int) = true:=decide_eq_true ⟨by omega,hf⟩
   have f2 : shortI (Int.gcd n d : Int) = Int.gcd n d:=by unfold shortI; rw [f1]; rfl
   rw [f1,f2] at hG
   obtain ⟨q1,q2⟩:=mk_quot (n:=n) h0
   have hdv1 : (if d < 0 then -(Int.gcd n d : Int) else (Int.gcd n d : Int)) ∣ n:=by
    split
    ·exact Int.neg_dvd.2 (Int.gcd_dvd_left ..)
    ·exact Int.gcd_dvd_left ..
   have hdv2 : (if d < 0 then -(Int.gcd n d : Int) else (Int.gcd n d : Int)) ∣ d:=by
    split
    ·exact Int.neg_dvd.2 (Int.gcd_dvd_right ..)
    ·exact Int.gcd_dvd_right ..
   have hgi : I64 (if d < 0 then -(Int.gcd n d : Int) else (Int.gcd n d : Int)):=by unfold I64; split <;> omega
   have hgn : (if d < 0 then -(Int.gcd n d : Int) else (Int.gcd n d : Int)) ≠ 0:=by split <;> omega
   have x1:=fun H => exact_spec (H:=H) hn hgi hgn hdv1
   have x2:=fun H => exact_spec (H:=H) hd hgi hgn hdv2
   rw [q1] at x1
   rw [q2] at x2
   have hok : mkOk n d = (fitsI (mkA n d) && fitsI (mkB n d)):=by
    unfold mkOk fitsI
    rw [decide_eq_true h0,Bool.true_and]
    congr 1
    rw [decide_eq_decide]
    omega
   have hnum : mkNum n d = if mkOk n d then mkA n d else 0:=rfl
   have hden : mkDen n d = if mkOk n d then mkB n d else 0:=rfl
   rw [hok] at hnum hden
   rw [hnum,hden,hok]
   unfold shortI at x1 x2
   clear hnum hden hok q1 q2 hA hB hBp hdv1 hdv2 hgn f1 f2
   generalize fitsI (mkA n d) = fa at *
   generalize fitsI (mkB n d) = fb at *
   generalize mkA n d = A at *
   generalize mkB n d = B at *
   generalize (Int.gcd n d : Int) = G at *
   have hwr : IntKind.i64.wrap (-G) = -G:=IntWalk.i64_in _ (by omega)
   by_cases hneg : d < 0
   case' pos =>
    rw [if_pos hneg] at x1 x2 hgi
    simp (disch:=omega) [-getElem?_pos,if_pos,if_neg,decide_eq_true,decide_eq_false,ir_ratio_Make,h0']
    refine AFn.pure (hG _) ?_
    simp (disch:=omega) [-getElem?_pos,if_pos,if_neg,decide_eq_true,decide_eq_false,hneg,hwr]
   case' neg =>
    rw [if_neg hneg] at x1 x2 hgi
    simp (disch:=omega) [-getElem?_pos,if_pos,if_neg,decide_eq_true,decide_eq_false,ir_ratio_Make,h0']
    refine AFn.pure (hG _) ?_
    simp (disch:=omega) [-getElem?_pos,if_pos,if_neg,decide_eq_true,decide_eq_false,hneg]
   all_goals
    refine AFn.pure (x1 _) ?_
    simp (disch:=omega) [-getElem?_pos,if_pos,if_neg,decide_eq_true,decide_eq_false,]
    refine AFn.pure (x2 _) ?_
    cases fa with
    | false =>
     simp (disch:=omega) [-getElem?_pos,if_pos,if_neg,decide_eq_true,decide_eq_false,writeA,over,cut2i]
     exact .alloc
    | true =>
     cases fb with
     | false =>
      simp (disch:=omega) [-getElem?_pos,if_pos,if_neg,decide_eq_true,decide_eq_false,writeA,over,cut2i]
      exact .alloc
     | true =>
      simp (disch:=omega) [-getElem?_pos,if_pos,if_neg,decide_eq_true,decide_eq_false,writeA,over,cut2i]
      exact .alloc
  ·obtain ⟨rfl,hn2,hgg⟩:=gcd_far hn hd h0 hf
   have f1 : fitsI (Int.gcd n (-9223372036854775808) : Int) = false:=decide_eq_false (by omega)
   have f2 : shortI (Int.gcd n (-9223372036854775808) : Int) = 0:=by unfold shortI; rw [f1]; rfl
   rw [f1,f2] at hG
   have hls:=fun H => @least_spec H n (-9223372036854775808)
   have hb : mkB n (-9223372036854775808) = 1:=by unfold mkB; rw [hgg]; rfl
   rcases hn2 with rfl | rfl
   case' inl =>
    have e1 : mkOk 0 (-9223372036854775808) = true:=by decide
    have e2 : mkNum 0 (-9223372036854775808) = 0:=by decide
    have e3 : mkDen 0 (-9223372036854775808) = 1:=by decide
    rw [e1,e2,e3]
   case' inr =>
    have e1 : mkOk (-9223372036854775808) (-9223372036854775808) = true:=by decide
    have e2 : mkNum (-9223372036854775808) (-9223372036854775808) = 1:=by decide
    have e3 : mkDen (-9223372036854775808) (-9223372036854775808) = 1:=by decide
    rw [e1,e2,e3]
   all_goals
    simp (disch:=omega) [-getElem?_pos,if_pos,if_neg,decide_eq_true,decide_eq_false,ir_ratio_Make]
    generalize hH1 : AH.alloc H _ = H1
    have k1 : Keep [] H H1:=by rw [← hH1]; exact .alloc
    have n1 : H1.next = H.next + 1:=by rw [← hH1]; simp
    have b1 : H1.blk H.next = some (.row [.int .i64 0,.int .i64 0] T_ratio_Ratio true):=by rw [← hH1]; exact AH.alloc_blk_new
    clear hH1
    refine AFn.pure (hG _) ?_
    simp (disch:=omega) [-getElem?_pos,if_pos,if_neg,decide_eq_true,decide_eq_false,]
    refine (hls _).mono' fun u H2 w2 ⟨hu,k2⟩ => ?_
    subst hu
    have n2:=k2.next
    have b2:=(k2.blk H.next (by omega) (by simp)).trans b1
    have wr:=fun (a : Int) => writeA_of (off:=0) (news:=[Value.int .i64 a,.int .i64 1]) b2 (by simp)
    simp only [over,List.take_zero,List.nil_append,List.length_cons,List.length_nil,Nat.zero_add,List.drop_succ_cons,List.drop_zero,List.append_nil,List.drop_nil] at wr
    simp (disch:=omega) [-getElem?_pos,if_pos,if_neg,decide_eq_true,decide_eq_false,wr,cut2i]
    exact ⟨by simp; omega,fun b hb _ => by rw [AH.set_blk_ne (by omega),k2.blk b (by omega) (by simp),k1.blk b hb (by simp)]⟩
end Go.Proofs.Ytllfcbacpoaphaa
