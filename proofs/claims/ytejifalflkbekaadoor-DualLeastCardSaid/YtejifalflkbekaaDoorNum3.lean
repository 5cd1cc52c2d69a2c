/-
  Contracts of package num (3): a product, a sum of two.
-/
import Derived.Test.YtejifalflkbekaaDoorNum2
set_option maxRecDepth 100000
set_option linter.unusedSimpArgs false
set_option linter.unusedVariables false
namespace Go.Abs
open Go
def sgn (s : Bool) (m : Nat) : Int:=if s then -(m : Int) else m
theorem sgn_abs (n : Int) : sgn (decide (n < 0)) n.natAbs = n:=by unfold sgn; split <;> (rename_i h; simp at h; omega)
theorem sgn_mul (a b : Int) : a * b = sgn (decide (a < 0) != decide (b < 0)) (a.natAbs * b.natAbs):=by
 have h1:=sgn_abs a
 have h2:=sgn_abs b
 conv => lhs; rw [← h1,← h2]
 cases decide (a < 0) <;> cases decide (b < 0) <;> simp [sgn,Int.mul_neg,Int.neg_mul]
theorem sgn_neg {s : Bool} {m : Nat} : decide (sgn s m < 0) = (s && decide (m ≠ 0)):=by
 cases s
 ·simp only [sgn,Bool.false_eq_true,if_false,Bool.false_and]; exact decide_eq_false (by omega)
 ·simp only [sgn,if_true,Bool.true_and]; exact decide_eq_decide.2 (by omega)
theorem mul64_hi (x1 x0 y1 y0 M w0 t : Nat) (hM : 0 < M) (hw : w0 = x0 * y0) (ht : t = x1 * y0 + w0 / M) : x1 * y1 + t / M + (t % M + x0 * y1) / M = (x1 * M + x0) * (y1 * M + y0) / (M * M):=by
 have e1 : (x1 * M + x0) * (y1 * M + y0) = M * (M * (x1 * y1)) + (M * (x1 * y0 + x0 * y1) + w0):=by
  rw [hw,Nat.add_mul,Nat.mul_add,Nat.mul_add,Nat.mul_add]
  have a1 : x1 * M * (y1 * M) = M * (M * (x1 * y1)):=by
   rw [Nat.mul_comm x1 M,Nat.mul_comm y1 M,Nat.mul_assoc,Nat.mul_left_comm x1 M]
  have a2 : x1 * M * y0 = M * (x1 * y0):=by rw [Nat.mul_comm x1 M,Nat.mul_assoc]
  have a3 : x0 * (y1 * M) = M * (x0 * y1):=by rw [Nat.mul_comm y1 M,Nat.mul_left_comm]
  rw [a1,a2,a3]; omega
 have e2 : t = M * (t / M) + t % M:=(Nat.div_add_mod t M).symm
 rw [e1,← Nat.div_div_eq_div_mul,Nat.mul_add_div hM,Nat.mul_add_div hM,Nat.mul_add_div hM]
 have e3 : x1 * y0 + x0 * y1 + w0 / M = M * (t / M) + (t % M + x0 * y1):=by omega
 rw [e3,Nat.mul_add_div hM]
 omega
end Go.Abs
namespace Go.Proofs.YtejifalflkbekaaDoor
open Go Go.Abs
theorem and32 (x : Nat) : x &&& 4294967295 = x % 4294967296:=Nat.and_two_pow_sub_one_eq_mod x 32
theorem Mul64_spec {H : AH} {x y : Nat} (hx : x < W64) (hy : y < W64) : AFn Tryd.prog F_bits_Mul64 [uv x,uv y] H fun u H' => u = .tuple #[uv (x * y / W64),uv (x * y % W64)] ∧ H' = H:=by
 refine AFn.enter mixed ir_bits_Mul64_eq (by simp [ir_bits_Mul64]) fun hw => ?_
 have hx' : x < 18446744073709551616:=hx
 have hy' : y < 18446744073709551616:=hy
 have f1 : abin .and (uv x) (uv 4294967295) = some (uv (x % 4294967296)):=by rw [uv_and hx' (by omega),and32]
 have f2 : abin .shr (uv x) (uv 32) = some (uv (x / 4294967296)):=uv_shr (k:=.u64) (n:=32) hx'
 have f3 : abin .and (uv y) (uv 4294967295) = some (uv (y % 4294967296)):=by rw [uv_and hy' (by omega),and32]
 have f4 : abin .shr (uv y) (uv 32) = some (uv (y / 4294967296)):=uv_shr (k:=.u64) (n:=32) hy'
 have f5 : abin .mul (uv x) (uv y) = some (uv (x * y % W64)):=uv_mul
 have hxe : x = x / 4294967296 * 4294967296 + x % 4294967296:=by omega
 have hye : y = y / 4294967296 * 4294967296 + y % 4294967296:=by omega
 have l1 : x % 4294967296 ≤ 4294967295:=by omega
 have l2 : y % 4294967296 ≤ 4294967295:=by omega
 have l3 : x / 4294967296 ≤ 4294967295:=by omega
 have l4 : y / 4294967296 ≤ 4294967295:=by omega
 have hhi : x * y / W64 < W64:=by
  have : x * y < W64 * W64:=Nat.mul_lt_mul_of_lt_of_le hx (Nat.le_of_lt hy) (by decide)
  exact (Nat.div_lt_iff_lt_mul (by decide)).2 this
 generalize hlo : x * y % W64 = lo at *
 have hmain : ∀ w0 t,w0 = x % 4294967296 * (y % 4294967296) → t = x / 4294967296 * (y % 4294967296) + w0 / 4294967296 → x / 4294967296 * (y / 4294967296) + t / 4294967296 + (t % 4294967296 + x % 4294967296 * (y / 4294967296)) / 4294967296 = x * y / W64:=by
  intro w0 t h1 h2
  have:=mul64_hi (x / 4294967296) (x % 4294967296) (y / 4294967296) (y % 4294967296) 4294967296 w0 t (by omega) h1 h2
  rw [← hxe,← hye] at this
  exact this
 generalize x * y / W64 = hi at *
 generalize x % 4294967296 = x0 at *
 generalize x / 4294967296 = x1 at *
 generalize y % 4294967296 = y0 at *
 generalize y / 4294967296 = y1 at *
 have m1:=Nat.mul_le_mul l1 l2
 have m2:=Nat.mul_le_mul l3 l2
 have m3:=Nat.mul_le_mul l1 l4
 have m4:=Nat.mul_le_mul l3 l4
 have g1 : abin .mul (uv x0) (uv y0) = some (uv (x0 * y0)):=by rw [uv_mul,Nat.mod_eq_of_lt (by omega)]
 have g2 : abin .mul (uv x1) (uv y0) = some (uv (x1 * y0)):=by rw [uv_mul,Nat.mod_eq_of_lt (by omega)]
 have g3 : abin .mul (uv x0) (uv y1) = some (uv (x0 * y1)):=by rw [uv_mul,Nat.mod_eq_of_lt (by omega)]
 have g4 : abin .mul (uv x1) (uv y1) = some (uv (x1 * y1)):=by rw [uv_mul,Nat.mod_eq_of_lt (by omega)]
 have hm:=hmain _ _ rfl rfl
 clear hmain hxe hye
 generalize x0 * y0 = w0 at *
 generalize x1 * y0 = p1 at *
 generalize x0 * y1 = p2 at *
 generalize x1 * y1 = p3 at *
 have s1 : abin .shr (uv w0) (uv 32) = some (uv (w0 / 4294967296)):=uv_shr (k:=.u64) (n:=32) (by omega)
 have s2 : abin .add (uv p1) (uv (w0 / 4294967296)) = some (uv (p1 + w0 / 4294967296)):=uv_add (by omega)
 have hwh : w0 / 4294967296 ≤ 4294967295:=by omega
 generalize w0 / 4294967296 = wh at *
 have hth : p1 + wh < 18446744073709551616:=by omega
 generalize p1 + wh = t at *
 have s3 : abin .and (uv t) (uv 4294967295) = some (uv (t % 4294967296)):=by rw [uv_and hth (by omega),and32]
 have s4 : abin .shr (uv t) (uv 32) = some (uv (t / 4294967296)):=uv_shr (k:=.u64) (n:=32) hth
 have htl : t % 4294967296 ≤ 4294967295:=by omega
 have hth2 : t / 4294967296 ≤ 4294967295:=by omega
 generalize t % 4294967296 = w1 at *
 generalize t / 4294967296 = w2 at *
 have s5 : abin .add (uv w1) (uv p2) = some (uv (w1 + p2)):=uv_add (by omega)
 have hw1 : w1 + p2 < 18446744073709551616:=by omega
 generalize w1 + p2 = w1' at *
 have s6 : abin .shr (uv w1') (uv 32) = some (uv (w1' / 4294967296)):=uv_shr (k:=.u64) (n:=32) hw1
 have hw3 : w1' / 4294967296 ≤ 4294967295:=by omega
 generalize w1' / 4294967296 = w3 at *
 have s7 : abin .add (uv p3) (uv w2) = some (uv (p3 + w2)):=uv_add (by omega)
 have hp3 : p3 + w2 + w3 = hi:=hm
 have s8 : abin .add (uv (p3 + w2)) (uv w3) = some (uv hi):=by rw [uv_add (by omega),hp3]
 generalize p3 + w2 = c at *
 clear hm hlo m1 m2 m3 m4
 simp (disch:=omega) [-getElem?_pos,if_pos,if_neg,decide_eq_true,decide_eq_false,ir_bits_Mul64,↓f1,↓f2,↓f3,↓f4,↓f5,↓g1,↓g2,↓g3,↓g4,↓s1,↓s2,↓s3,↓s4,↓s5,↓s6,↓s7,↓s8]
theorem times_spec {H : AH} {a b : Int} (ha : I64 a) (hb : I64 b) : AFn Tryd.prog F_num_times [.int .i64 a,.int .i64 b] H fun u H' => u = wV (a * b) ∧ H' = H:=by
 refine AFn.calm (fun H0 hs => ?_) rfl
 refine AFn.enter mixed ir_num_times_eq (by simp [ir_num_times]) fun hw => ?_
 obtain ⟨a1,a2⟩:=id ha
 obtain ⟨b1,b2⟩:=id hb
 have la : a.natAbs < W64:=by show _ < 18446744073709551616; omega
 have lb : b.natAbs < W64:=by show _ < 18446744073709551616; omega
 have hW : 0 < W64:=by decide
 have hM:=fun H => Mul64_spec (H:=H) la lb
 have hS1:=fun H => size_spec (H:=H) ha
 have hS2:=fun H => size_spec (H:=H) hb
 have hn : (a * b).natAbs = a.natAbs * b.natAbs:=Int.natAbs_mul a b
 have hlt : a.natAbs * b.natAbs < W64 * W64:=Nat.mul_lt_mul_of_lt_of_le la (Nat.le_of_lt lb) (by decide)
 have hsg : decide (a * b < 0) = ((decide (a < 0) != decide (b < 0)) && decide (a.natAbs * b.natAbs ≠ 0)):=by
  rw [← sgn_neg,← sgn_mul]
 unfold wV wv
 rw [hsg,hn]
 generalize a.natAbs * b.natAbs = m at *
 have hh : m / W64 < W64:=(Nat.div_lt_iff_lt_mul hW).2 hlt
 have hl : m % W64 < W64:=Nat.mod_lt _ hW
 have ho:=uv_or (a:=m / W64) (b:=m % W64) hh hl
 have h0 : (m / W64 ||| m % W64 ≠ 0) ↔ m ≠ 0:=by
  rw [ne_eq,or_ne _ _ hh hl]
  have:=Nat.div_add_mod m W64
  constructor
  ·rintro h rfl; exact h ⟨rfl,rfl⟩
  ·rintro h ⟨h1,h2⟩; rw [h1,h2] at this; omega
 have hne : abin .neq (uv (m / W64 ||| m % W64)) (uv 0) = some (.bool (decide (m ≠ 0))):=by rw [uv_neq]; simp only [h0]
 have ea : abin .lss (.int .i64 a) (.int .i64 0) = some (.bool (decide (a < 0))):=by simp [abin]
 have eb : abin .lss (.int .i64 b) (.int .i64 0) = some (.bool (decide (b < 0))):=by simp [abin]
 generalize decide (m ≠ 0) = d at *
 generalize m / W64 ||| m % W64 = o at *
 generalize m / W64 = h at *
 generalize m % W64 = l at *
 clear h0 hsg hn hlt
 simp (disch:=omega) [-getElem?_pos,if_pos,if_neg,decide_eq_true,decide_eq_false,ir_num_times]
 refine AFn.pure (hS1 _) ?_
 simp (disch:=omega) [-getElem?_pos,if_pos,if_neg,decide_eq_true,decide_eq_false,]
 refine AFn.pure (hS2 _) ?_
 simp (disch:=omega) [-getElem?_pos,if_pos,if_neg,decide_eq_true,decide_eq_false,]
 refine AFn.pure (hM _) ?_
 generalize decide (a < 0) = s at *
 generalize decide (b < 0) = t at *
 cases s <;> cases t
 ·simp (disch:=omega) [-getElem?_pos,if_pos,if_neg,decide_eq_true,decide_eq_false,↓ea,↓eb,writeA,over,cut3]
 ·simp (disch:=omega) [-getElem?_pos,if_pos,if_neg,decide_eq_true,decide_eq_false,↓ea,↓eb,↓ho,↓hne,writeA,over,cut3]
 ·simp (disch:=omega) [-getElem?_pos,if_pos,if_neg,decide_eq_true,decide_eq_false,↓ea,↓eb,↓ho,↓hne,writeA,over,cut3]
 ·simp (disch:=omega) [-getElem?_pos,if_pos,if_neg,decide_eq_true,decide_eq_false,↓ea,↓eb,writeA,over,cut3]
end Go.Proofs.YtejifalflkbekaaDoor
