/-
  Contracts of package num: wide numbers; the sum of numbers.
-/
import Derived.Test.YtejifalflkbekaaDoorRen
import Derived.Test.YtejifalflkbekaaDoorIrN
set_option maxRecDepth 100000
set_option linter.unusedSimpArgs false
set_option linter.unusedVariables false
namespace Go.Abs
open Go
abbrev W64 : Nat:=18446744073709551616
theorem wadd_lo (W a b : Nat) : (a % W + b % W) % W = (a + b) % W:=(Nat.add_mod a b W).symm
theorem wadd_hi (W a b : Nat) (hW : 0 < W) : a / W + b / W + (a % W + b % W) / W = (a + b) / W:=by
 have h1:=Nat.div_add_mod a W
 have h2:=Nat.div_add_mod b W
 have h3 : a + b = W * (a / W + b / W) + (a % W + b % W):=by rw [Nat.mul_add]; omega
 rw [h3,Nat.mul_add_div hW]
theorem wsub_lo (W a b : Nat) (hW : 0 < W) (h : b ≤ a) : (a % W + W - b % W) % W = (a - b) % W:=by
 have h1:=Nat.div_add_mod a W
 have h2:=Nat.div_add_mod b W
 have h3:=Nat.mod_lt b hW
 have h4 : b / W ≤ a / W:=Nat.div_le_div_right h
 have h5 : W * (b / W) ≤ W * (a / W):=Nat.mul_le_mul_left _ h4
 have h6 : (a - b) + W = W * (a / W - b / W) + (a % W + W - b % W):=by rw [Nat.mul_sub]; omega
 rw [← Nat.add_mod_right (a - b) W,h6,Nat.mul_add_mod]
theorem wsub_hi (W a b : Nat) (hW : 0 < W) (h : b ≤ a) : a / W - b / W - (if a % W < b % W then 1 else 0) = (a - b) / W ∧ b / W + (if a % W < b % W then 1 else 0) ≤ a / W:=by
 have h1:=Nat.div_add_mod a W
 have h2:=Nat.div_add_mod b W
 have h3:=Nat.mod_lt b hW
 have h3':=Nat.mod_lt a hW
 have h4 : b / W ≤ a / W:=Nat.div_le_div_right h
 split
 ·rename_i hc
  have h5 : b / W + 1 ≤ a / W:=by
   apply Classical.byContradiction
   intro hn
   have : b / W = a / W:=by omega
   rw [this] at h2; omega
  refine ⟨?_,h5⟩
  have h6 : a - b = W * (a / W - b / W - 1) + (a % W + W - b % W):=by
   have h7 : W * (b / W + 1) ≤ W * (a / W):=Nat.mul_le_mul_left _ h5
   rw [Nat.mul_sub,Nat.mul_sub,Nat.mul_one]
   rw [Nat.mul_add,Nat.mul_one] at h7
   omega
  rw [h6,Nat.mul_add_div hW,Nat.div_eq_of_lt (show a % W + W - b % W < W by omega)]; omega
 ·rename_i hc
  refine ⟨?_,by omega⟩
  have h5 : W * (b / W) ≤ W * (a / W):=Nat.mul_le_mul_left _ h4
  have h6 : a - b = W * (a / W - b / W) + (a % W - b % W):=by rw [Nat.mul_sub]; omega
  rw [h6,Nat.mul_add_div hW,Nat.div_eq_of_lt (show a % W - b % W < W by omega)]; omega
theorem extV_add {x y c : Nat} (hc : c ≤ 1) : extV true [uv x,uv y,uv c] = some (.tuple #[uv ((x + y + c) % W64),uv ((x + y + c) / W64)]):=by
 simp [extV,uv,hc]
theorem extV_sub {x y c : Nat} (hc : c ≤ 1) : extV false [uv x,uv y,uv c] = some (.tuple #[uv ((x + W64 - y - c) % W64),uv (if x < y + c then 1 else 0)]):=by
 simp [extV,uv,hc]
theorem cut3 {a b c : Value} : cut [a,b,c] 0 3 = some [a,b,c]:=by simp [cut]
def wv (s : Bool) (m : Nat) : Value:=.agg #[.bool s,uv (m / W64),uv (m % W64)]
def wV (n : Int) : Value:=wv (decide (n < 0)) n.natAbs
end Go.Abs
namespace Go.Proofs.YtejifalflkbekaaDoor
open Go Go.Abs
theorem plus_spec {H : AH} {s t : Bool} {a b : Nat} (h : a + b < W64 * W64) : AFn Tryd.prog F_num_plus [wv s a,wv t b] H fun u H' => u = wv s (a + b) ∧ H' = H:=by
 refine AFn.calm (fun H0 hs => ?_) rfl
 refine AFn.enter mixed ir_num_plus_eq (by simp [ir_num_plus]) fun hw => ?_
 have hW : 0 < W64:=by decide
 have c1 : (a % W64 + b % W64 + 0) / W64 ≤ 1:=by
  have:=Nat.mod_lt a hW
  have:=Nat.mod_lt b hW
  exact Nat.lt_succ_iff.1 ((Nat.div_lt_iff_lt_mul hW).2 (by omega))
 have e1:=extV_add (x:=a % W64) (y:=b % W64) (c:=0) (by omega)
 have e2:=extV_add (x:=a / W64) (y:=b / W64) (c:=(a % W64 + b % W64 + 0) / W64) c1
 have l1 : (a % W64 + b % W64 + 0) % W64 = (a + b) % W64:=wadd_lo _ _ _
 have l2 : (a / W64 + b / W64 + (a % W64 + b % W64 + 0) / W64) % W64 = (a + b) / W64:=by
  rw [Nat.add_zero,wadd_hi _ _ _ hW]
  exact Nat.mod_eq_of_lt ((Nat.div_lt_iff_lt_mul hW).2 h)
 rw [l1] at e1
 rw [l2] at e2
 unfold wv
 generalize (a + b) % W64 = lo at *
 generalize (a + b) / W64 = hi at *
 generalize (a % W64 + b % W64 + 0) / W64 = c at *
 generalize a % W64 = al at *
 generalize b % W64 = bl at *
 generalize a / W64 = ah at *
 generalize b / W64 = bh at *
 generalize (ah + bh + c) / W64 = cc at *
 clear l1 l2
 simp (disch:=omega) [-getElem?_pos,if_pos,if_neg,decide_eq_true,decide_eq_false,ir_num_plus,e1,e2,writeA,over,cut3]
theorem less_spec {H : AH} {s t : Bool} {a b : Nat} (h : b ≤ a) (ha : a < W64 * W64) : AFn Tryd.prog F_num_less [wv s a,wv t b] H fun u H' => u = wv s (a - b) ∧ H' = H:=by
 refine AFn.calm (fun H0 hs => ?_) rfl
 refine AFn.enter mixed ir_num_less_eq (by simp [ir_num_less]) fun hw => ?_
 have hW : 0 < W64:=by decide
 obtain ⟨d1,d2⟩:=wsub_hi W64 a b hW h
 have hah : a / W64 < W64:=(Nat.div_lt_iff_lt_mul hW).2 ha
 have e1:=extV_sub (x:=a % W64) (y:=b % W64) (c:=0) (by omega)
 have c1 : (if a % W64 < b % W64 then 1 else 0) ≤ 1:=by split <;> omega
 have e2:=extV_sub (x:=a / W64) (y:=b / W64) (c:=if a % W64 < b % W64 then 1 else 0) c1
 have l1 : (a % W64 + W64 - b % W64 - 0) % W64 = (a - b) % W64:=wsub_lo _ _ _ hW h
 have l2 : (a / W64 + W64 - b / W64 - (if a % W64 < b % W64 then 1 else 0)) % W64 = (a - b) / W64:=by
  rw [← d1]
  generalize (if a % W64 < b % W64 then 1 else 0) = c at *
  generalize a / W64 = x at *
  generalize b / W64 = y at *
  rw [show x + W64 - y - c = (x - y - c) + W64 by omega,Nat.add_mod_right,Nat.mod_eq_of_lt (by omega)]
 rw [l1,Nat.add_zero] at e1
 rw [l2] at e2
 clear d1 d2 l1 l2
 unfold wv
 generalize (if a % W64 < b % W64 then 1 else 0) = c at *
 generalize (a - b) % W64 = lo at *
 generalize (a - b) / W64 = hi at *
 generalize a % W64 = al at *
 generalize b % W64 = bl at *
 generalize a / W64 = ah at *
 generalize b / W64 = bh at *
 generalize (if ah < bh + c then 1 else 0) = cc at *
 simp (disch:=omega) [-getElem?_pos,if_pos,if_neg,decide_eq_true,decide_eq_false,ir_num_less,e1,e2,writeA,over,cut3]
theorem or_ne (x y : Nat) (hx : x < W64) (hy : y < W64) : (x ||| y = 0) ↔ x = 0 ∧ y = 0:=by
 constructor
 ·intro h
  exact ⟨Nat.eq_zero_of_le_zero (h ▸ Nat.left_le_or),Nat.eq_zero_of_le_zero (h ▸ Nat.right_le_or)⟩
 ·rintro ⟨rfl,rfl⟩; rfl
theorem normal_spec {H : AH} {s : Bool} {m : Nat} (hm : m < W64 * W64) : AFn Tryd.prog F_num_normal [wv s m] H fun u H' => u = wv (s && decide (m ≠ 0)) m ∧ H' = H:=by
 refine AFn.calm (fun H0 hs => ?_) rfl
 refine AFn.enter mixed ir_num_normal_eq (by simp [ir_num_normal]) fun hw => ?_
 have hW : 0 < W64:=by decide
 have hh : m / W64 < W64:=(Nat.div_lt_iff_lt_mul hW).2 hm
 have hl : m % W64 < W64:=Nat.mod_lt _ hW
 have ho:=uv_or (a:=m / W64) (b:=m % W64) hh hl
 have h0 : (m / W64 ||| m % W64 ≠ 0) ↔ m ≠ 0:=by
  rw [ne_eq,or_ne _ _ hh hl]
  have:=Nat.div_add_mod m W64
  constructor
  ·rintro h rfl; exact h ⟨rfl,rfl⟩
  ·rintro h ⟨h1,h2⟩; rw [h1,h2] at this; omega
 have hn : abin .neq (uv (m / W64 ||| m % W64)) (uv 0) = some (.bool (decide (m ≠ 0))):=by rw [uv_neq]; simp only [h0]
 unfold wv
 generalize decide (m ≠ 0) = d at *
 generalize m / W64 ||| m % W64 = o at *
 generalize m / W64 = h at *
 generalize m % W64 = l at *
 clear h0
 cases s
 ·simp (disch:=omega) [-getElem?_pos,if_pos,if_neg,decide_eq_true,decide_eq_false,ir_num_normal,writeA,over,cut3]
 ·simp (disch:=omega) [-getElem?_pos,if_pos,if_neg,decide_eq_true,decide_eq_false,ir_num_normal,↓ho,↓hn,writeA,over,cut3]
theorem isNaNU_spec {H : AH} (a : Nat) : AFn Tryd.prog F_cmp_isNaN_uint64 [uv a] H fun u H' => u = .bool false ∧ H' = H:=by
 refine AFn.enter mixed ir_cmp_isNaN_uint64_eq (by simp [ir_cmp_isNaN_uint64]) fun hw => ?_
 have h : abin .neq (uv a) (uv a) = some (.bool false):=by rw [uv_neq]; simp
 simp (disch:=omega) [-getElem?_pos,if_pos,if_neg,decide_eq_true,decide_eq_false,ir_cmp_isNaN_uint64,↓h]
def cmpW (a b : Nat) : Int:=if a < b then -1 else if b < a then 1 else 0
theorem CompareU_spec {H : AH} (a b : Nat) : AFn Tryd.prog F_cmp_Compare_uint64 [uv a,uv b] H fun u H' => u = .int .i64 (cmpW a b) ∧ H' = H:=by
 refine AFn.enter mixed ir_cmp_Compare_uint64_eq (by simp [ir_cmp_Compare_uint64]) fun hw => ?_
 simp (disch:=omega) [-getElem?_pos,if_pos,if_neg,decide_eq_true,decide_eq_false,ir_cmp_Compare_uint64]
 refine AFn.pure (isNaNU_spec a) ?_
 simp (disch:=omega) [-getElem?_pos,if_pos,if_neg,decide_eq_true,decide_eq_false,]
 refine AFn.pure (isNaNU_spec b) ?_
 have l1:=uv_lss (a:=a) (b:=b)
 have l2:=uv_gtr (a:=a) (b:=b)
 unfold cmpW
 by_cases h1 : a < b
 ·simp (disch:=omega) [-getElem?_pos,if_pos,if_neg,decide_eq_true,decide_eq_false,↓l1,h1]
 ·by_cases h2 : b < a
  ·simp (disch:=omega) [-getElem?_pos,if_pos,if_neg,decide_eq_true,decide_eq_false,↓l1,↓l2,h1,h2]
  ·simp (disch:=omega) [-getElem?_pos,if_pos,if_neg,decide_eq_true,decide_eq_false,↓l1,↓l2,h1,h2]
theorem cmpW_split (a b : Nat) : (if cmpW (a / W64) (b / W64) ≠ 0 then cmpW (a / W64) (b / W64) else cmpW (a % W64) (b % W64)) = cmpW a b:=by
 have h1:=Nat.div_add_mod a W64
 have h2:=Nat.div_add_mod b W64
 have h3:=Nat.mod_lt a (show 0 < W64 by decide)
 have h4:=Nat.mod_lt b (show 0 < W64 by decide)
 generalize a / W64 = x at *
 generalize b / W64 = y at *
 generalize a % W64 = z at *
 generalize b % W64 = t at *
 subst h1 h2
 rcases Nat.lt_trichotomy x y with h | h | h
 ·have : W64 * (x + 1) ≤ W64 * y:=Nat.mul_le_mul_left _ h
  rw [Nat.mul_add] at this
  have e1 : cmpW x y = -1:=by unfold cmpW; rw [if_pos h]
  have e2 : cmpW (W64 * x + z) (W64 * y + t) = -1:=by unfold cmpW; rw [if_pos (by omega)]
  rw [e1,e2]; simp
 ·subst h
  have e1 : cmpW x x = 0:=by unfold cmpW; rw [if_neg (by omega),if_neg (by omega)]
  rw [e1]
  simp only [ne_eq,not_true,if_false]
  unfold cmpW
  simp only [Nat.add_lt_add_iff_left]
 ·have : W64 * (y + 1) ≤ W64 * x:=Nat.mul_le_mul_left _ h
  rw [Nat.mul_add] at this
  have e1 : cmpW x y = 1:=by unfold cmpW; rw [if_neg (by omega),if_pos h]
  have e2 : cmpW (W64 * x + z) (W64 * y + t) = 1:=by unfold cmpW; rw [if_neg (by omega),if_pos (by omega)]
  rw [e1,e2]; simp
def Or2I (H : AH) (q : Nat) (a b : Int) (k : Nat) (env : Env) (H' : AH) : Prop :=
 env 3 = some (.int .i64 0) ∧ env 6 = some (.slice (some ⟨q,0,none⟩) 2 2) ∧ env 7 = some (.int .i64 2) ∧ env 8 = some (.int .i64 k) ∧ H' = H ∧ (0 < k → a = 0) ∧ (1 < k → b = 0)
theorem or2_spec {H : AH} {q : Nat} {a b : Int} (hq : H.cells q = some [.int .i64 a,.int .i64 b]) : AFn Tryd.prog F_cmp_Or_int [.slice (some ⟨q,0,none⟩) 2 2] H fun u H' => u = .int .i64 (if a ≠ 0 then a else b) ∧ H' = H:=by
 refine AFn.enter mixed ir_cmp_Or_int_eq (by simp [ir_cmp_Or_int]) fun hw => ?_
 simp (disch:=omega) [-getElem?_pos,if_pos,if_neg,decide_eq_true,decide_eq_false,ir_cmp_Or_int]
 refine loop_upto 2 (Or2I H q a b) ⟨by simp,by simp,by simp,by simp,rfl,by simp,by simp⟩ ?_
 rintro k env H' hk ⟨e3,e6,e7,e8,rfl,h0,h1⟩
 by_cases hk0 : k = 0
 ·subst hk0
  have g : [Value.int .i64 a,Value.int .i64 b][0]? = some (.int .i64 a):=rfl
  generalize hcs : [Value.int .i64 a,Value.int .i64 b] = cs at *
  by_cases ha : a = 0
  ·simp (disch:=omega) [-getElem?_pos,if_pos,if_neg,decide_eq_true,decide_eq_false,ir_cmp_Or_int_l0,e3,e6,e7,e8,hq,g,ha,IntWalk.i64_in]
   exact ⟨by simp [e3],by simp [e6],by simp [e7],by simp,rfl,by simp,by simp⟩
  ·simp (disch:=omega) [-getElem?_pos,if_pos,if_neg,decide_eq_true,decide_eq_false,ir_cmp_Or_int_l0,e3,e6,e7,e8,hq,g,ha,IntWalk.i64_in]
 ·by_cases hk1 : k = 1
  ·subst hk1
   obtain rfl:=h0 (by omega)
   have g : [Value.int .i64 0,Value.int .i64 b][1]? = some (.int .i64 b):=rfl
   generalize hcs : [Value.int .i64 0,Value.int .i64 b] = cs at *
   by_cases hb : b = 0
   ·simp (disch:=omega) [-getElem?_pos,if_pos,if_neg,decide_eq_true,decide_eq_false,ir_cmp_Or_int_l0,e3,e6,e7,e8,hq,g,hb,IntWalk.i64_in]
    exact ⟨by simp [e3],by simp [e6],by simp [e7],by simp,rfl,by simp,by simp⟩
   ·simp (disch:=omega) [-getElem?_pos,if_pos,if_neg,decide_eq_true,decide_eq_false,ir_cmp_Or_int_l0,e3,e6,e7,e8,hq,g,hb,IntWalk.i64_in]
  ·obtain rfl : k = 2:=by omega
   obtain rfl:=h0 (by omega)
   obtain rfl:=h1 (by omega)
   simp (disch:=omega) [-getElem?_pos,if_pos,if_neg,decide_eq_true,decide_eq_false,ir_cmp_Or_int_l0,e3,e7,e8]
theorem distance_spec {H : AH} {s t : Bool} {a b : Nat} : AFn Tryd.prog F_num_distance [wv s a,wv t b] H fun u H' => u = .int .i64 (cmpW a b) ∧ H' = H:=by
 refine AFn.calm (fun H0 hs => ?_) rfl
 refine AFn.enter mixed ir_num_distance_eq (by simp [ir_num_distance]) fun hw => ?_
 rw [← cmpW_split a b]
 unfold wv
 generalize a % W64 = al at *
 generalize b % W64 = bl at *
 generalize a / W64 = ah at *
 generalize b / W64 = bh at *
 simp (disch:=omega) [-getElem?_pos,if_pos,if_neg,decide_eq_true,decide_eq_false,ir_num_distance]
 refine AFnD.of (CompareU_spec ah bh) ?_
 simp (disch:=omega) [-getElem?_pos,if_pos,if_neg,decide_eq_true,decide_eq_false,]
 refine AFnD.of (CompareU_spec al bl) ?_
 simp (disch:=omega) [-getElem?_pos,if_pos,if_neg,decide_eq_true,decide_eq_false,]
 refine AFnD.of (or2_spec (a:=cmpW ah bh) (b:=cmpW al bl) AH.cells_alloc_new) ?_
 simp (disch:=omega) [-getElem?_pos,if_pos,if_neg,decide_eq_true,decide_eq_false,]
end Go.Proofs.YtejifalflkbekaaDoor
