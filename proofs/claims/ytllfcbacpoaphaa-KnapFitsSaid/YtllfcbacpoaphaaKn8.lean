/-
  Quotients made less: gcd, exact quotients, ratio.Make.
-/
import Derived.Test.YtllfcbacpoaphaaKn1
set_option maxRecDepth 100000
set_option linter.unusedSimpArgs false
set_option linter.unusedVariables false
namespace Go.Abs
open Go
def mkA (n d : Int) : Int:=(if d < 0 then -n else n) / (Int.gcd n d : Int)
def mkB (n d : Int) : Int:=(if d < 0 then -d else d) / (Int.gcd n d : Int)
def mkOk (n d : Int) : Bool:=decide (d ≠ 0) && decide (-9223372036854775808 ≤ mkA n d ∧ mkA n d ≤ 9223372036854775807) && decide (mkB n d ≤ 9223372036854775807)
def mkNum (n d : Int) : Int:=if mkOk n d then mkA n d else 0
def mkDen (n d : Int) : Int:=if mkOk n d then mkB n d else 0
theorem gcd_step (x y : Nat) : Nat.gcd y (x % y) = Nat.gcd x y:=by rw [Nat.gcd_comm y,← Nat.gcd_rec,Nat.gcd_comm]
theorem mk_exact {n d : Int} (hd : d ≠ 0) : 0 < (Int.gcd n d : Int) ∧ (if d < 0 then -n else n) = (Int.gcd n d : Int) * mkA n d ∧ (if d < 0 then -d else d) = (Int.gcd n d : Int) * mkB n d ∧ 0 < mkB n d:=by
 have hg : 0 < (Int.gcd n d : Int):=by
  have:=Int.gcd_pos_of_ne_zero_right n hd
  omega
 have h1 : (Int.gcd n d : Int) ∣ (if d < 0 then -n else n):=by
  split
  ·exact Int.dvd_neg.2 (Int.gcd_dvd_left ..)
  ·exact Int.gcd_dvd_left ..
 have h2 : (Int.gcd n d : Int) ∣ (if d < 0 then -d else d):=by
  split
  ·exact Int.dvd_neg.2 (Int.gcd_dvd_right ..)
  ·exact Int.gcd_dvd_right ..
 have e2:=(Int.mul_ediv_cancel' h2).symm
 refine ⟨hg,(Int.mul_ediv_cancel' h1).symm,e2,?_⟩
 have hp : 0 < (if d < 0 then -d else d):=by split <;> omega
 rw [e2] at hp
 exact Int.pos_of_mul_pos_right hp hg |> fun h => h
end Go.Abs
namespace Go.Proofs.Ytllfcbacpoaphaa
open Go Go.Abs
def GcI (H : AH) (g : Nat) (j : Nat) (env : Env) (H' : AH) : Prop :=
 ∃ x : Nat,H' = H ∧ env 6 = some (uv x) ∧ env 7 = some (uv j) ∧ x < W64 ∧ j < W64 ∧ Nat.gcd x j = g
theorem gcd_l0 {H H1 : AH} {g y : Nat} {env : Env} (h : GcI H g y env H1) : wpC Try.prog 23 (.loop ir_num_Gcd_l0) (fun e env' H' => e = .exit 0 ∧ H' = H ∧ env' 6 = some (uv g) ∧ g < W64) env H1:=by
 refine loop_rule (GcI H g) (Q:=fun e env' H' => e = .exit 0 ∧ H' = H ∧ env' 6 = some (uv g) ∧ g < W64) ?_ (j:=y) h
 rintro j env H' ⟨x,rfl,e6,e7,hx,hj,hg⟩
 have hx' : x < 18446744073709551616:=hx
 have hj' : j < 18446744073709551616:=hj
 by_cases h0 : j = 0
 ·subst h0
  have h1 : abin .neq (uv 0) (uv 0) = some (.bool false):=by rw [uv_neq]; simp
  simp (disch:=omega) [-getElem?_pos,if_pos,if_neg,decide_eq_true,decide_eq_false,ir_num_Gcd_l0,e6,e7,↓h1]
  rw [Nat.gcd_zero_right] at hg
  subst hg
  exact ⟨rfl,hx⟩
 ·have h1 : abin .neq (uv j) (uv 0) = some (.bool true):=by rw [uv_neq]; simp [h0]
  have h2 : abin .rem (uv x) (uv j) = some (uv (x % j)):=by
   have hjI : ¬ (j : Int) = 0:=by omega
   simp only [uv,abin,hjI,if_false]
   simp [IntKind.wrap,IntKind.bits,IntKind.signed,hjI,h0,Int.tmod]
  have hlt:=Nat.mod_lt x (show 0 < j by omega)
  have hs:=gcd_step x j
  generalize x % j = r at *
  simp (disch:=omega) [-getElem?_pos,if_pos,if_neg,decide_eq_true,decide_eq_false,ir_num_Gcd_l0,e6,e7,↓h1,↓h2]
  exact ⟨r,hlt,j,rfl,by simp,by simp,hj,by omega,by rw [hs,hg]⟩
theorem wV_low (g : Nat) (h : g < W64) : Value.agg #[.bool false,uv 0,uv g] = wV (g : Int):=by
 have h' : g < 18446744073709551616:=h
 unfold wV wv
 rw [decide_eq_false (show ¬ (g : Int) < 0 by omega),Int.natAbs_natCast,Nat.div_eq_of_lt h,Nat.mod_eq_of_lt h]
theorem Gcd_spec {H : AH} {a b : Int} (ha : I64 a) (hb : I64 b) : AFn Try.prog F_num_Gcd [.int .i64 a,.int .i64 b] H fun u H' => u = .tuple #[.int .i64 (shortI (Int.gcd a b : Int)),.bool (fitsI (Int.gcd a b : Int))] ∧ H' = H:=by
 refine AFn.enter mixed ir_num_Gcd_eq (by simp [ir_num_Gcd]) fun hw => ?_
 have hga : a.natAbs < W64:=by obtain ⟨h1,h2⟩:=ha; show _ < 18446744073709551616; omega
 have hgb : b.natAbs < W64:=by obtain ⟨h1,h2⟩:=hb; show _ < 18446744073709551616; omega
 simp (disch:=omega) [-getElem?_pos,if_pos,if_neg,decide_eq_true,decide_eq_false,ir_num_Gcd]
 refine AFn.pure (size_spec ha) ?_
 simp (disch:=omega) [-getElem?_pos,if_pos,if_neg,decide_eq_true,decide_eq_false,]
 refine AFn.pure (size_spec hb) ?_
 simp (disch:=omega) [-getElem?_pos,if_pos,if_neg,decide_eq_true,decide_eq_false,]
 refine wpC_use (gcd_l0 (H:=H) (g:=Int.gcd a b) (y:=b.natAbs) ⟨a.natAbs,rfl,by simp,by simp,hga,hgb,rfl⟩) ?_
 rintro e env2 H2 ⟨rfl,rfl,f6,hg⟩ _
 have hs:=short_spec (H:=H2) (n:=(Int.gcd a b : Int)) (by rw [Int.natAbs_natCast]; exact Nat.lt_of_lt_of_le hg (by decide))
 rw [← wV_low _ hg] at hs
 generalize Int.gcd a b = g at *
 simp (disch:=omega) [-getElem?_pos,if_pos,if_neg,decide_eq_true,decide_eq_false,f6]
 refine AFn.pure hs ?_
 simp (disch:=omega) [-getElem?_pos,if_pos,if_neg,decide_eq_true,decide_eq_false,]
theorem divided_spec {H : AH} {a b : Int} (ha : I64 a) (hb : I64 b) (h0 : b ≠ 0) (hd : b ∣ a) : AFn Try.prog F_num_divided [.int .i64 a,.int .i64 b] H fun u H' => u = .tuple #[wV (a / b),.bool false] ∧ Keep [] H H':=by
 refine AFn.enter mixed ir_num_divided_eq (by simp [ir_num_divided]) fun hw => ?_
 have hga : a.natAbs < 18446744073709551616:=by obtain ⟨h1,h2⟩:=ha; omega
 have hgb : b.natAbs < 18446744073709551616:=by obtain ⟨h1,h2⟩:=hb; omega
 have hb0 : b.natAbs ≠ 0:=by omega
 obtain ⟨c,rfl⟩:=hd
 rw [Int.mul_ediv_cancel_left _ h0]
 have hab : (b * c).natAbs = b.natAbs * c.natAbs:=Int.natAbs_mul b c
 have hq : abin .quo (uv (b * c).natAbs) (uv b.natAbs) = some (uv c.natAbs):=by
  have hbI : ¬ ((b.natAbs : Nat) : Int) = 0:=by omega
  have hcl : c.natAbs < 18446744073709551616:=by
   rw [hab] at hga
   exact Nat.lt_of_le_of_lt (Nat.le_mul_of_pos_left _ (by omega)) hga
  have : Int.tdiv (((b * c).natAbs : Nat) : Int) ((b.natAbs : Nat) : Int) = (c.natAbs : Int):=by
   rw [hab,Int.natCast_mul,Int.mul_tdiv_cancel_left _ hbI]
  simp only [uv,abin]
  rw [if_neg hbI,this]
  simp [IntKind.wrap,IntKind.bits,IntKind.signed]; omega
 have hr : abin .rem (uv (b * c).natAbs) (uv b.natAbs) = some (uv 0):=by
  have hbI : ¬ ((b.natAbs : Nat) : Int) = 0:=by omega
  have : Int.tmod (((b * c).natAbs : Nat) : Int) ((b.natAbs : Nat) : Int) = 0:=by
   rw [hab,Int.natCast_mul,Int.mul_tmod_right]
  simp only [uv,abin]
  rw [if_neg hbI,this]
  simp [IntKind.wrap,IntKind.bits,IntKind.signed]
 have hsz1:=fun H => size_spec (H:=H) ha
 have hsz2:=fun H => size_spec (H:=H) hb
 have hcl : c.natAbs < W64:=by
  rw [hab] at hga
  exact Nat.lt_of_le_of_lt (Nat.le_mul_of_pos_left _ (by omega)) hga
 have hn:=fun H => normal_spec (H:=H) (s:=decide (b * c < 0) != decide (b < 0)) (m:=c.natAbs) (Nat.lt_of_lt_of_le hcl (by decide))
 have hsg : wv ((decide (b * c < 0) != decide (b < 0)) && decide (c.natAbs ≠ 0)) c.natAbs = wV c:=by
  unfold wV
  congr 1
  rcases Int.lt_trichotomy b 0 with hb' | hb' | hb'
  ·rcases Int.lt_trichotomy c 0 with hc | hc | hc
   ·have:=Int.mul_pos_of_neg_of_neg hb' hc
    simp [hb',hc,show ¬ b * c < 0 by omega]; omega
   ·subst hc; simp
   ·have:=Int.mul_neg_of_neg_of_pos hb' hc
    simp [hb',this,show ¬ c < 0 by omega]
  ·exact absurd hb' h0
  ·rcases Int.lt_trichotomy c 0 with hc | hc | hc
   ·have:=Int.mul_neg_of_pos_of_neg hb' hc
    simp [hc,this,show ¬ b < 0 by omega]; omega
   ·subst hc; simp
   ·have:=Int.mul_pos hb' hc
    simp [show ¬ b < 0 by omega,show ¬ b * c < 0 by omega,show ¬ c < 0 by omega]
 rw [hsg] at hn
 have hwv : ∀ s,wv s c.natAbs = .agg #[.bool s,uv 0,uv c.natAbs]:=fun s => by unfold wv; rw [Nat.div_eq_of_lt hcl,Nat.mod_eq_of_lt hcl]
 rw [hwv] at hn
 have h00 : abin .neq (uv 0) (uv 0) = some (.bool false):=by rw [uv_neq]; simp
 generalize b * c = a at *
 unfold wV at hn ⊢
 unfold wv at hn ⊢
 generalize decide (c < 0) = sc at *
 generalize c.natAbs / W64 = ch at *
 generalize c.natAbs % W64 = cl at *
 simp (disch:=omega) [-getElem?_pos,if_pos,if_neg,decide_eq_true,decide_eq_false,ir_num_divided]
 refine AFnD.of (hsz1 _) ?_
 simp (disch:=omega) [-getElem?_pos,if_pos,if_neg,decide_eq_true,decide_eq_false,]
 refine AFnD.of (hsz2 _) ?_
 simp (disch:=omega) [-getElem?_pos,if_pos,if_neg,decide_eq_true,decide_eq_false,↓hq]
 refine AFnD.of (hsz1 _) ?_
 simp (disch:=omega) [-getElem?_pos,if_pos,if_neg,decide_eq_true,decide_eq_false,]
 refine AFnD.of (hsz2 _) ?_
 simp (disch:=omega) [-getElem?_pos,if_pos,if_neg,decide_eq_true,decide_eq_false,↓hr]
 refine AFn.pure (hn _) ?_
 simp (disch:=omega) [-getElem?_pos,if_pos,if_neg,decide_eq_true,decide_eq_false,↓h00,writeA,over,cut3]
 exact .alloc
theorem exact_spec {H : AH} {a b : Int} (ha : I64 a) (hb : I64 b) (h0 : b ≠ 0) (hd : b ∣ a) : AFn Try.prog F_ratio_exact [.int .i64 a,.int .i64 b] H fun u H' => u = .tuple #[.int .i64 (shortI (a / b)),.bool (fitsI (a / b))] ∧ H' = H:=by
 have hf : AFn Try.prog F_num_Floor [.int .i64 a,.int .i64 b] H fun u H' => u = .tuple #[.int .i64 (shortI (a / b)),.bool (fitsI (a / b))] ∧ H' = H:=by
  refine AFn.calm (fun H0 hs => ?_) rfl
  refine AFn.enter mixed ir_num_Floor_eq (by simp [ir_num_Floor]) fun hw => ?_
  have hlt : (a / b).natAbs < W64 * W64:=by
   obtain ⟨c,rfl⟩:=hd
   rw [Int.mul_ediv_cancel_left _ h0]
   obtain ⟨h1,h2⟩:=ha
   have hab : (b * c).natAbs = b.natAbs * c.natAbs:=Int.natAbs_mul b c
   have : c.natAbs ≤ (b * c).natAbs:=by rw [hab]; exact Nat.le_mul_of_pos_left _ (by omega)
   show _ < 18446744073709551616 * 18446744073709551616
   omega
  have hb':=eq_false h0
  have hsh:=fun H => short_spec (H:=H) (n:=a / b) hlt
  have hdv:=divided_spec (H:=H0) ha hb h0 hd
  unfold wV wv at hdv hsh
  generalize decide (a / b < 0) = s at *
  generalize (a / b).natAbs / W64 = ch at *
  generalize (a / b).natAbs % W64 = cl at *
  simp (disch:=omega) [-getElem?_pos,if_pos,if_neg,decide_eq_true,decide_eq_false,ir_num_Floor,hb']
  refine hdv.mono' fun u H2 w2 ⟨hu,k2⟩ => ?_
  subst hu
  simp (disch:=omega) [-getElem?_pos,if_pos,if_neg,decide_eq_true,decide_eq_false,writeA,over,cut3]
  refine AFn.pure (hsh _) ?_
  simp (disch:=omega) [-getElem?_pos,if_pos,if_neg,decide_eq_true,decide_eq_false,]
 refine AFn.enter mixed ir_ratio_exact_eq (by simp [ir_ratio_exact]) fun hw => ?_
 simp (disch:=omega) [-getElem?_pos,if_pos,if_neg,decide_eq_true,decide_eq_false,ir_ratio_exact]
 refine AFn.pure hf ?_
 simp (disch:=omega) [-getElem?_pos,if_pos,if_neg,decide_eq_true,decide_eq_false,]
theorem Of_ratio_spec {H : AH} (n : Int) : AFn Try.prog F_ratio_Of [.int .i64 n] H fun u H' => u = .agg #[.int .i64 n,.int .i64 1] ∧ H' = H:=by
 refine AFn.calm (fun H0 hs => ?_) rfl
 refine AFn.enter mixed ir_ratio_Of_eq (by simp [ir_ratio_Of]) fun hw => ?_
 simp (disch:=omega) [-getElem?_pos,if_pos,if_neg,decide_eq_true,decide_eq_false,ir_ratio_Of,writeA,over,cut2i]
theorem least_spec {H : AH} {n d : Int} : AFn Try.prog F_ratio_least [.int .i64 n,.int .i64 d] H fun u H' => u = .tuple #[.agg #[.int .i64 (if n = d then 1 else 0),.int .i64 1],.bool (decide (n = d ∨ n = 0))] ∧ Keep [] H H':=by
 refine AFn.enter mixed ir_ratio_least_eq (by simp [ir_ratio_least]) fun hw => ?_
 by_cases h : n = d
 ·subst h
  simp (disch:=omega) [-getElem?_pos,if_pos,if_neg,decide_eq_true,decide_eq_false,ir_ratio_least]
  refine AFn.pure (Of_ratio_spec 1) ?_
  simp (disch:=omega) [-getElem?_pos,if_pos,if_neg,decide_eq_true,decide_eq_false,writeA,over,cut2i]
  exact .alloc
 ·have h':=eq_false h
  simp (disch:=omega) [-getElem?_pos,if_pos,if_neg,decide_eq_true,decide_eq_false,ir_ratio_least,h']
  refine AFn.pure (Of_ratio_spec 0) ?_
  by_cases h0 : n = 0
  ·subst h0
   simp (disch:=omega) [-getElem?_pos,if_pos,if_neg,decide_eq_true,decide_eq_false,writeA,over,cut2i]
   exact .alloc
  ·have h0':=eq_false h0
   simp (disch:=omega) [-getElem?_pos,if_pos,if_neg,decide_eq_true,decide_eq_false,writeA,over,cut2i,h0']
   exact .alloc
end Go.Proofs.Ytllfcbacpoaphaa
