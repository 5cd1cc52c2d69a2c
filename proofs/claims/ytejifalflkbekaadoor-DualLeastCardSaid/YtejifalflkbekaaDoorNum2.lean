/-
  Contracts of package num (2): sums.
-/
import Derived.Test.YtejifalflkbekaaDoorNum
set_option maxRecDepth 100000
set_option linter.unusedSimpArgs false
set_option linter.unusedVariables false
namespace Go.Proofs.YtejifalflkbekaaDoor
open Go Go.Abs
theorem size_spec {H : AH} {a : Int} (ha : I64 a) : AFn Tryd.prog F_num_size [.int .i64 a] H fun u H' => u = uv a.natAbs ∧ H' = H:=by
 refine AFn.enter mixed ir_num_size_eq (by simp [ir_num_size]) fun hw => ?_
 obtain ⟨h1,h2⟩:=ha
 by_cases h0 : a < 0
 ·have hwr : Value.int .u64 (IntKind.u64.wrap a) = uv (18446744073709551616 - a.natAbs):=by
   unfold uv; congr 1
   simp [IntKind.wrap,IntKind.signed,IntKind.bits]; omega
  have hn:=uv_neg (a:=18446744073709551616 - a.natAbs) (by omega) (by omega)
  rw [show 18446744073709551616 - (18446744073709551616 - a.natAbs) = a.natAbs by omega] at hn
  generalize 18446744073709551616 - a.natAbs = x at *
  generalize a.natAbs = y at *
  simp (disch:=omega) [-getElem?_pos,if_pos,if_neg,decide_eq_true,decide_eq_false,ir_num_size,h0,hwr,↓hn]
 ·have hwr : Value.int .u64 (IntKind.u64.wrap a) = uv a.natAbs:=by
   unfold uv; congr 1
   simp [IntKind.wrap,IntKind.signed,IntKind.bits]; omega
  generalize a.natAbs = y at *
  simp (disch:=omega) [-getElem?_pos,if_pos,if_neg,decide_eq_true,decide_eq_false,ir_num_size,h0,hwr]
theorem of_spec {H : AH} {a : Int} (ha : I64 a) : AFn Tryd.prog F_num_of [.int .i64 a] H fun u H' => u = wV a ∧ H' = H:=by
 refine AFn.calm (fun H0 hs => ?_) rfl
 refine AFn.enter mixed ir_num_of_eq (by simp [ir_num_of]) fun hw => ?_
 simp (disch:=omega) [-getElem?_pos,if_pos,if_neg,decide_eq_true,decide_eq_false,ir_num_of]
 refine AFn.pure (size_spec ha) ?_
 obtain ⟨h1,h2⟩:=ha
 have e1 : a.natAbs / W64 = 0:=Nat.div_eq_of_lt (by show _ < 18446744073709551616; omega)
 have e2 : a.natAbs % W64 = a.natAbs:=Nat.mod_eq_of_lt (by show _ < 18446744073709551616; omega)
 unfold wV wv
 rw [e1,e2]
 generalize a.natAbs = y at *
 generalize decide (a < 0) = d at *
 simp (disch:=omega) [-getElem?_pos,if_pos,if_neg,decide_eq_true,decide_eq_false,writeA,over,cut3]
theorem cmpW_ge {a b : Nat} : (0 ≤ cmpW a b) ↔ b ≤ a:=by
 unfold cmpW; split
 ·omega
 ·split <;> omega
theorem add_spec {H : AH} {a b : Int} (h : a.natAbs + b.natAbs < W64 * W64) : AFn Tryd.prog F_num_add [wV a,wV b] H fun u H' => u = wV (a + b) ∧ H' = H:=by
 refine AFn.calm (fun H0 hs => ?_) rfl
 refine AFn.enter mixed ir_num_add_eq (by simp [ir_num_add]) fun hw => ?_
 have hwv : ∀ (s : Bool) (m : Nat),wv s m = .agg #[.bool s,uv (m / W64),uv (m % W64)]:=fun _ _ => rfl
 have hp:=fun H => plus_spec (H:=H) (s:=decide (a < 0)) (t:=decide (b < 0)) h
 have hd:=fun H => distance_spec (H:=H) (s:=decide (a < 0)) (t:=decide (b < 0)) (a:=a.natAbs) (b:=b.natAbs)
 by_cases hs2 : decide (a < 0) = decide (b < 0)
 ·have e : wv (decide (a < 0)) (a.natAbs + b.natAbs) = wV (a + b):=by
   unfold wV
   have h1 : (a + b).natAbs = a.natAbs + b.natAbs:=by
    have : (a < 0 ↔ b < 0):=by simpa using hs2
    omega
   have h2 : decide (a + b < 0) = decide (a < 0):=by
    have : (a < 0 ↔ b < 0):=by simpa using hs2
    simp; omega
   rw [h1,h2]
  simp only [e] at hp
  obtain ⟨s',hi,lo,hcv⟩ : ∃ s hi lo,wV (a + b) = .agg #[.bool s,uv hi,uv lo]:=⟨_,_,_,rfl⟩
  rw [hcv] at hp ⊢
  unfold wV
  simp only [hwv] at hp ⊢
  generalize decide (a < 0) = s at *
  generalize decide (b < 0) = t at *
  generalize a.natAbs / W64 = ah at *
  generalize a.natAbs % W64 = al at *
  generalize b.natAbs / W64 = bh at *
  generalize b.natAbs % W64 = bl at *
  subst hs2
  simp (disch:=omega) [-getElem?_pos,if_pos,if_neg,decide_eq_true,decide_eq_false,ir_num_add,cut3]
  refine AFn.pure (hp _) ?_
  simp (disch:=omega) [-getElem?_pos,if_pos,if_neg,decide_eq_true,decide_eq_false,writeA,over,cut3]
 ·by_cases hab : b.natAbs ≤ a.natAbs
  ·have hl:=fun H => less_spec (H:=H) (s:=decide (a < 0)) (t:=decide (b < 0)) hab (by omega)
   have hn:=fun H => normal_spec (H:=H) (s:=decide (a < 0)) (m:=a.natAbs - b.natAbs) (by omega)
   have hc : (0 : Int) ≤ cmpW a.natAbs b.natAbs:=cmpW_ge.2 hab
   have e : wv (decide (a < 0) && decide (a.natAbs - b.natAbs ≠ 0)) (a.natAbs - b.natAbs) = wV (a + b):=by
    unfold wV
    have h0 : ¬ (a < 0 ↔ b < 0):=by simpa using hs2
    have h1 : (a + b).natAbs = a.natAbs - b.natAbs:=by omega
    have h2 : decide (a + b < 0) = (decide (a < 0) && decide (a.natAbs - b.natAbs ≠ 0)):=by
     rw [← Bool.decide_and]; congr 1; apply propext; omega
    rw [h1,h2]
   simp only [e] at hn
   obtain ⟨s',hi,lo,hcv⟩ : ∃ s hi lo,wV (a + b) = .agg #[.bool s,uv hi,uv lo]:=⟨_,_,_,rfl⟩
   rw [hcv] at hn ⊢
   unfold wV
   simp only [hwv] at hn hl hd ⊢
   generalize cmpW a.natAbs b.natAbs = c at *
   generalize (a.natAbs - b.natAbs) / W64 = dh at *
   generalize (a.natAbs - b.natAbs) % W64 = dl at *
   generalize a.natAbs / W64 = ah at *
   generalize a.natAbs % W64 = al at *
   generalize b.natAbs / W64 = bh at *
   generalize b.natAbs % W64 = bl at *
   generalize decide (a < 0) = s at *
   generalize decide (b < 0) = t at *
   have hst : (s == t) = false:=by simpa using hs2
   simp (disch:=omega) [-getElem?_pos,if_pos,if_neg,decide_eq_true,decide_eq_false,ir_num_add,cut3,hst]
   refine AFn.pure (hd _) ?_
   simp (disch:=omega) [-getElem?_pos,if_pos,if_neg,decide_eq_true,decide_eq_false,hc,cut3]
   refine AFn.pure (hl _) ?_
   simp (disch:=omega) [-getElem?_pos,if_pos,if_neg,decide_eq_true,decide_eq_false,cut3]
   refine AFn.pure (hn _) ?_
   simp (disch:=omega) [-getElem?_pos,if_pos,if_neg,decide_eq_true,decide_eq_false,writeA,over,cut3]
  ·have hl:=fun H => less_spec (H:=H) (s:=decide (b < 0)) (t:=decide (a < 0)) (a:=b.natAbs) (b:=a.natAbs) (by omega) (by omega)
   have hn:=fun H => normal_spec (H:=H) (s:=decide (b < 0)) (m:=b.natAbs - a.natAbs) (by omega)
   have hc : ¬ (0 : Int) ≤ cmpW a.natAbs b.natAbs:=fun h => hab (cmpW_ge.1 h)
   have e : wv (decide (b < 0) && decide (b.natAbs - a.natAbs ≠ 0)) (b.natAbs - a.natAbs) = wV (a + b):=by
    unfold wV
    have h0 : ¬ (a < 0 ↔ b < 0):=by simpa using hs2
    have h1 : (a + b).natAbs = b.natAbs - a.natAbs:=by omega
    have h2 : decide (a + b < 0) = (decide (b < 0) && decide (b.natAbs - a.natAbs ≠ 0)):=by
     rw [← Bool.decide_and]; congr 1; apply propext; omega
    rw [h1,h2]
   simp only [e] at hn
   obtain ⟨s',hi,lo,hcv⟩ : ∃ s hi lo,wV (a + b) = .agg #[.bool s,uv hi,uv lo]:=⟨_,_,_,rfl⟩
   rw [hcv] at hn ⊢
   unfold wV
   simp only [hwv] at hn hl hd ⊢
   generalize cmpW a.natAbs b.natAbs = c at *
   generalize (b.natAbs - a.natAbs) / W64 = dh at *
   generalize (b.natAbs - a.natAbs) % W64 = dl at *
   generalize a.natAbs / W64 = ah at *
   generalize a.natAbs % W64 = al at *
   generalize b.natAbs / W64 = bh at *
   generalize b.natAbs % W64 = bl at *
   generalize decide (a < 0) = s at *
   generalize decide (b < 0) = t at *
   have hst : (s == t) = false:=by simpa using hs2
   simp (disch:=omega) [-getElem?_pos,if_pos,if_neg,decide_eq_true,decide_eq_false,ir_num_add,cut3,hst]
   refine AFn.pure (hd _) ?_
   simp (disch:=omega) [-getElem?_pos,if_pos,if_neg,decide_eq_true,decide_eq_false,hc,cut3]
   refine AFn.pure (hl _) ?_
   simp (disch:=omega) [-getElem?_pos,if_pos,if_neg,decide_eq_true,decide_eq_false,cut3]
   refine AFn.pure (hn _) ?_
   simp (disch:=omega) [-getElem?_pos,if_pos,if_neg,decide_eq_true,decide_eq_false,writeA,over,cut3]
def fitsI (n : Int) : Bool:=decide (-9223372036854775808 ≤ n ∧ n ≤ 9223372036854775807)
def shortI (n : Int) : Int:=if fitsI n then n else 0
theorem short_spec {H : AH} {n : Int} (h : n.natAbs < W64 * W64) : AFn Tryd.prog F_num_short [wV n] H fun u H' => u = .tuple #[.int .i64 (shortI n),.bool (fitsI n)] ∧ H' = H:=by
 refine AFn.calm (fun H0 hs => ?_) rfl
 refine AFn.enter mixed ir_num_short_eq (by simp [ir_num_short]) fun hw => ?_
 have h1:=Nat.div_add_mod n.natAbs W64
 have h2:=Nat.mod_lt n.natAbs (show 0 < W64 by decide)
 unfold wV wv
 by_cases hh : n.natAbs / W64 = 0
 ·rw [hh,Nat.mul_zero,Nat.zero_add] at h1
  rw [hh,h1]
  rw [h1] at h2
  have g0 : abin .neq (uv 0) (uv 0) = some (.bool false):=by rw [uv_neq]; rfl
  by_cases hn : n < 0
  ·have g2 : abin .gtr (uv n.natAbs) (uv 9223372036854775808) = some (.bool (!fitsI n)):=by
    rw [uv_gtr]; unfold fitsI; congr 2; rw [← decide_not]; congr 1; apply propext; omega
   have g3:=uv_neg (a:=n.natAbs) (by omega) h2
   by_cases hf : fitsI n = true
   ·have hwr : IntKind.i64.wrap ((18446744073709551616 - n.natAbs : Nat) : Int) = n:=by
     unfold fitsI at hf
     simp at hf
     simp [IntKind.wrap,IntKind.signed,IntKind.bits]; omega
    have hsi : shortI n = n:=by unfold shortI; rw [if_pos hf]
    have hux:=uv_def (18446744073709551616 - n.natAbs)
    rw [hf,Bool.not_true] at g2
    rw [hf,hsi]
    generalize hx : 18446744073709551616 - n.natAbs = x at *
    generalize n.natAbs = y at *
    simp (disch:=omega) [-getElem?_pos,if_pos,if_neg,decide_eq_true,decide_eq_false,ir_num_short,hn,↓g0,↓g2,↓g3,hwr,hux]
   ·have hf' : fitsI n = false:=by simpa using hf
    have hsi : shortI n = 0:=by unfold shortI; rw [if_neg hf]
    rw [hf',Bool.not_false] at g2
    rw [hf',hsi]
    generalize n.natAbs = y at *
    simp (disch:=omega) [-getElem?_pos,if_pos,if_neg,decide_eq_true,decide_eq_false,ir_num_short,hn,↓g0,↓g2]
  ·have g2 : abin .gtr (uv n.natAbs) (uv 9223372036854775807) = some (.bool (!fitsI n)):=by
    rw [uv_gtr]; unfold fitsI; congr 2; rw [← decide_not]; congr 1; apply propext; omega
   by_cases hf : fitsI n = true
   ·have hwr : IntKind.i64.wrap (n.natAbs : Int) = n:=by
     unfold fitsI at hf
     simp at hf
     simp [IntKind.wrap,IntKind.signed,IntKind.bits]; omega
    have hsi : shortI n = n:=by unfold shortI; rw [if_pos hf]
    rw [hf,Bool.not_true] at g2
    rw [hf,hsi]
    have hux:=uv_def n.natAbs
    generalize n.natAbs = y at *
    rw [hux] at g2
    simp (disch:=omega) [-getElem?_pos,if_pos,if_neg,decide_eq_true,decide_eq_false,ir_num_short,hn,↓g0,↓g2,hwr,hux]
   ·have hf' : fitsI n = false:=by simpa using hf
    have hsi : shortI n = 0:=by unfold shortI; rw [if_neg hf]
    rw [hf',Bool.not_false] at g2
    rw [hf',hsi]
    generalize n.natAbs = y at *
    simp (disch:=omega) [-getElem?_pos,if_pos,if_neg,decide_eq_true,decide_eq_false,ir_num_short,hn,↓g0,↓g2]
 ·have hf' : fitsI n = false:=by
   unfold fitsI
   have : W64 * 1 ≤ W64 * (n.natAbs / W64):=Nat.mul_le_mul_left _ (Nat.pos_of_ne_zero hh)
   simp only [W64] at this h1
   simp; omega
  have hsi : shortI n = 0:=by unfold shortI; rw [hf']; rfl
  have g0 : abin .neq (uv (n.natAbs / W64)) (uv 0) = some (.bool true):=by rw [uv_neq]; simp [hh]
  rw [hf',hsi]
  generalize n.natAbs / W64 = hi at *
  generalize n.natAbs % W64 = lo at *
  clear h1
  simp (disch:=omega) [-getElem?_pos,if_pos,if_neg,decide_eq_true,decide_eq_false,ir_num_short,↓g0]
def wC (n : Int) : List Value:=[.bool (decide (n < 0)),uv (n.natAbs / W64),uv (n.natAbs % W64)]
theorem wC_cut (n : Int) : cut (wC n) 0 3 = some (wC n):=by unfold wC; exact cut3
theorem wC_over (n m : Int) : over (wC n) 0 (wC m) = wC m:=by simp [over,wC]
theorem wV_agg (n : Int) : wV n = .agg (wC n).toArray:=rfl
theorem wC_len (n : Int) : (wC n).length = 3:=rfl
theorem sum_bound : ∀ (L : List Int),(∀ x ∈ L,I64 x) → L.sum.natAbs ≤ L.length * 9223372036854775808
 | [],_ => by simp
 | a :: l,h => by
  have ih:=sum_bound l fun x hx => h x (by simp [hx])
  have ha:=h a (by simp)
  obtain ⟨h1,h2⟩:=ha
  rw [List.sum_cons,List.length_cons,Nat.succ_mul]
  omega
theorem sum_take_succ {L : List Int} {k : Nat} (h : k < L.length) : (L.take (k + 1)).sum = (L.take k).sum + L[k]:=by
 rw [List.take_succ_eq_append_getElem h,List.sum_append]; simp
def ToI (H0 : AH) (v : Value) (L : List Int) (k : Nat) (env : Env) (H' : AH) : Prop :=
 env 2 = some (.pointer (some ⟨H0.next,0,none⟩)) ∧ env 3 = some (.pointer (some ⟨H0.next + 1,0,none⟩)) ∧ env 6 = some v ∧ env 7 = some (.int .i64 L.length) ∧ env 8 = some (.int .i64 k) ∧ WF H' ∧ H'.next = H0.next + 2 ∧ Keep [] H0 H' ∧
  H'.blk (H0.next + 1) = some (.row (wC (L.take k).sum) T_num_wide true) ∧ H'.blk H0.next = some (.row (wC 0) T_num_wide true)
def ToQ (H0 : AH) (L : List Int) (e : AExit) (env : Env) (H' : AH) : Prop :=
 e = .exit 0 ∧ WF H' ∧ H'.next = H0.next + 2 ∧ H'.blk (H0.next + 1) = some (.row (wC L.sum) T_num_wide true) ∧ H'.blk H0.next = some (.row (wC 0) T_num_wide true)
theorem total_l0 {p : Nat → Prop} {H0 H1 : AH} {v : Value} {L : List Int} (hw : WF H0) (hL : SlV p H0 v L) (hl : L.length ≤ 1000000000000) {env : Env} (h : ToI H0 v L 0 env H1) : wpC Tryd.prog 18 (.loop ir_num_total_l0) (ToQ H0 L) env H1:=by
 refine loop_upto L.length (ToI H0 v L) (Q:=ToQ H0 L) h ?_
 rintro k env H' hk ⟨e2,e3,e6,e7,e8,w',n',k',b1,b0⟩
 by_cases hkn : k < L.length
 ·obtain ⟨b,off,sp,cap,cs,ev,q1,q2⟩:=ints_rd (hL.kept hw k') (by omega)
  obtain ⟨q3,q4⟩:=q2 k hkn
  subst ev
  have hI : ∀ x ∈ L,I64 x:=fun x hx => by
   obtain ⟨i,hi,rfl⟩:=List.getElem_of_mem hx
   exact (q2 i hi).2
  have hb1:=sum_bound (L.take k) fun x hx => hI x (List.mem_of_mem_take hx)
  rw [List.length_take,Nat.min_eq_left hk] at hb1
  have hb2:=sum_take_succ hkn
  have hsm : (L.take k).sum.natAbs + L[k].natAbs < W64 * W64:=by
   have h1:=q4.1
   have h2:=q4.2
   show _ < 18446744073709551616 * 18446744073709551616
   omega
  have hof:=fun H => of_spec (H:=H) q4
  have hadd:=fun H => add_spec (H:=H) hsm
  rw [← hb2] at hadd
  simp only [wV_agg] at hadd hof
  have c1:=AH.cells_of b1
  generalize (L.take k).sum = s at *
  generalize hs' : (L.take (k + 1)).sum = s' at *
  generalize L[k] = x at *
  clear hb2 hsm hb1
  have wr:=writeA_of (off:=0) (news:=wC s') b1 (by simp [wC_len])
  rw [wC_over] at wr
  have hcv : wV s' = .agg (wC s').toArray:=rfl
  simp (disch:=omega) [-getElem?_pos,if_pos,if_neg,decide_eq_true,decide_eq_false,ir_num_total_l0,e2,e3,e6,e7,e8,q1,q3,c1,wC_cut,hkn]
  refine AFnD.of (hof _) ?_
  simp (disch:=omega) [-getElem?_pos,if_pos,if_neg,decide_eq_true,decide_eq_false,]
  refine AFnD.of (hadd _) ?_
  simp (disch:=omega) [-getElem?_pos,if_pos,if_neg,decide_eq_true,decide_eq_false,wC_len,wr,e3,e8,IntWalk.i64_in]
  refine ⟨hkn,by simp [e2],by simp [e3],by simp [e6],by simp [e7],by simp,w'.set (by omega),by simp [n'],.new_set (by omega) k',by rw [hs']; exact AH.set_blk_same,?_⟩
  rw [AH.set_blk_ne (by omega)]; exact b0
 ·obtain rfl : k = L.length:=by omega
  rw [List.take_length] at b1
  simp (disch:=omega) [-getElem?_pos,if_pos,if_neg,decide_eq_true,decide_eq_false,ir_num_total_l0,e7,e8]
  exact ⟨rfl,w',n',b1,b0⟩
theorem total_spec {p : Nat → Prop} {H : AH} {v : Value} {L : List Int} (hL : SlV p H v L) (hl : L.length ≤ 1000000000000) : AFn Tryd.prog F_num_total [v] H fun u H' => u = wV L.sum ∧ H' = H:=by
 refine AFn.calm (fun H0 hs => ?_) rfl
 have hL0:=hL.same hs
 obtain ⟨va,vc,rfl⟩:=hL0.slice
 refine AFn.enter mixed ir_num_total_eq (by simp [ir_num_total]) fun hw => ?_
 have h0 : wC 0 = [.bool false,uv 0,uv 0]:=rfl
 simp (disch:=omega) [-getElem?_pos,if_pos,if_neg,decide_eq_true,decide_eq_false,ir_num_total]
 refine wpC_use (total_l0 (L:=L) hw hL0 hl ⟨by simp,by simp,by simp,by simp,by simp,hw.alloc.alloc,by simp,.new_alloc .alloc,by simp [h0],by simp [h0]⟩) ?_
 rintro e env H2 ⟨rfl,w2,n2,b1,b0⟩ hu
 have u2:=hu 2 (by decide)
 have u3:=hu 3 (by decide)
 have c1:=AH.cells_of b1
 have wr:=writeA_of (off:=0) (news:=wC L.sum) b0 (by simp [wC_len])
 rw [wC_over] at wr
 rw [wV_agg]
 generalize L.sum = s at *
 have hcc : cellsOf (.agg (wC s).toArray) = some (wC s):=rfl
 simp (disch:=omega) [-getElem?_pos,if_pos,if_neg,decide_eq_true,decide_eq_false,u2,u3,c1,wC_cut,hcc,wC_len,wr]
theorem Sum_spec {p : Nat → Prop} {H : AH} {v : Value} {L : List Int} (hL : SlV p H v L) (hl : L.length ≤ 1000000000000) : AFn Tryd.prog F_num_Sum [v] H fun u H' => u = .tuple #[.int .i64 (shortI L.sum),.bool (fitsI L.sum)] ∧ H' = H:=by
 refine AFn.calm (fun H0 hs => ?_) rfl
 have hL0:=hL.same hs
 have hI : ∀ x ∈ L,I64 x:=fun x hx => by
  obtain ⟨i,hi,rfl⟩:=List.getElem_of_mem hx
  obtain ⟨b,off,sp,cap,cs,ev,q1,q2⟩:=ints_rd hL0 (by omega)
  exact (q2 i hi).2
 have hb:=sum_bound L hI
 refine AFn.enter mixed ir_num_Sum_eq (by simp [ir_num_Sum]) fun hw => ?_
 have ht:=fun H => short_spec (H:=H) (n:=L.sum) (by show _ < 18446744073709551616 * 18446744073709551616; omega)
 simp (disch:=omega) [-getElem?_pos,if_pos,if_neg,decide_eq_true,decide_eq_false,ir_num_Sum]
 refine AFn.pure (total_spec hL0 hl) ?_
 generalize L.sum = s at *
 simp (disch:=omega) [-getElem?_pos,if_pos,if_neg,decide_eq_true,decide_eq_false,]
 refine AFn.pure (ht _) ?_
 simp (disch:=omega) [-getElem?_pos,if_pos,if_neg,decide_eq_true,decide_eq_false,]
end Go.Proofs.YtejifalflkbekaaDoor
