/-
  bits.Div64; num.FloorSum.
-/
import Derived.Test.YtllfcbacpoaphaaKd64
set_option maxRecDepth 100000
set_option linter.unusedSimpArgs false
set_option linter.unusedVariables false
namespace Go.Abs
theorem shift_word {lo s : Nat} (hs : s < 64) (hlo : lo < 18446744073709551616) : lo * 2 ^ s = lo / 2 ^ (64 - s) * 18446744073709551616 + lo * 2 ^ s % 18446744073709551616 ∧ lo / 2 ^ (64 - s) < 2 ^ s := by
  have e : (18446744073709551616 : Nat) = 2 ^ (64 - s) * 2 ^ s := by rw [← Nat.pow_add, show 64 - s + s = 64 by omega]
  have h1 : lo * 2 ^ s / 18446744073709551616 = lo / 2 ^ (64 - s) := by rw [e, Nat.mul_div_mul_right _ _ (Nat.two_pow_pos s)]
  refine ⟨by rw [← h1]; exact (Nat.div_add_mod' _ _).symm, ?_⟩
  rw [Nat.div_lt_iff_lt_mul (Nat.two_pow_pos _), Nat.mul_comm, ← e]
  exact hlo
end Go.Abs
namespace Go.Proofs.Ytllfcbacpoaphaa
open Go Go.Abs
theorem left_word {P u Qy : Nat} (h1 : Qy ≤ P + u) (h2 : P + u - Qy < 18446744073709551616) (hu : u < 18446744073709551616) : ((P % 18446744073709551616 + u) % 18446744073709551616 + 18446744073709551616 - Qy % 18446744073709551616) % 18446744073709551616 = P + u - Qy := by omega
theorem fst_sub {a y1 : Nat} (ha : a < 18446744073709551616) (h1 : 0 < y1) : abin .quo (uv a) (uv y1) = some (uv (a / y1)) ∧ abin .mul (uv (a / y1)) (uv y1) = some (uv (a / y1 * y1)) ∧ abin .sub (uv a) (uv (a / y1 * y1)) = some (uv (a % y1)) := by
  have hle : a / y1 * y1 ≤ a := Nat.div_mul_le_self _ _
  have he := Nat.div_add_mod' a y1
  refine ⟨uv_quoG ha h1, by rw [uv_mul, Nat.mod_eq_of_lt (by omega)], ?_⟩
  rw [uv_sub hle ha]
  congr 2; omega
theorem dig_left {un u1 Q Y R : Nat} (h : Q * Y + R = un * 4294967296 + u1) (hR : R < 18446744073709551616) (hu : u1 < 4294967296) : ∃ a b c, abin .mul (uv un) (uv 4294967296) = some (uv a) ∧ abin .add (uv a) (uv u1) = some (uv b) ∧ abin .mul (uv Q) (uv Y) = some (uv c) ∧ abin .sub (uv b) (uv c) = some (uv R) := by
  refine ⟨_, _, _, uv_mul, uv_addG, uv_mul, ?_⟩
  rw [uv_subG (Nat.mod_lt _ (by decide)) (Nat.mod_lt _ (by decide))]
  congr 2
  generalize un * 4294967296 = P at *
  generalize Q * Y = q at *
  omega
theorem fst_subE {a y1 : Nat} (ha : a < 18446744073709551616) (h1 : 0 < y1) : ∃ n m, n = a / y1 ∧ m = a % y1 ∧ ∃ c, abin .quo (uv a) (uv y1) = some (uv n) ∧ abin .mul (uv n) (uv y1) = some (uv c) ∧ abin .sub (uv a) (uv c) = some (uv m) := by
  obtain ⟨h1, h2, h3⟩ := fst_sub ha h1
  exact ⟨_, _, rfl, rfl, _, h1, h2, h3⟩
theorem Div64_spec {H : AH} {hi lo y : Nat} (hy : 0 < y) (hyb : y < 9223372036854775808) (hhi : hi < y) (hlo : lo < W64) : AFn Try.prog F_bits_Div64 [uv hi, uv lo, uv y] H fun u H' => u = .tuple #[uv ((hi * W64 + lo) / y), uv ((hi * W64 + lo) % y)] ∧ H' = H := by
  refine AFn.enter mixed ir_bits_Div64_eq (by simp [ir_bits_Div64]) fun hw => ?_
  have hlo' : lo < 18446744073709551616 := hlo
  have a1 : abin .eql (uv y) (uv 0) = some (.bool false) := by rw [uv_eql, decide_eq_false (by omega)]
  have a2 : abin .leq (uv y) (uv hi) = some (.bool false) := by
    have h : ¬ (y : Int) ≤ (hi : Int) := by omega
    simp [abin, uv]; omega
  by_cases h0 : hi = 0
  · subst h0
    have a3 : abin .eql (uv 0) (uv 0) = some (.bool true) := by rw [uv_eql]; simp
    have q1 := uv_quoG (a := lo) (b := y) hlo hy
    have q2 := uv_remG (a := lo) (b := y) hlo hy
    rw [Nat.zero_mul, Nat.zero_add]
    simp (disch := omega) [-getElem?_pos, if_pos, if_neg, decide_eq_true, decide_eq_false, ir_bits_Div64, ↓a1, ↓a2, ↓a3, ↓q1, ↓q2]
  · have a3 : abin .eql (uv hi) (uv 0) = some (.bool false) := by rw [uv_eql, decide_eq_false h0]
    have hlz := LeadingZeros64_spec (H := H) (x := y) (by omega) hy
    have hl63 : Nat.log2 y < 63 := (Nat.log2_lt (by omega)).2 hyb
    obtain ⟨g1, g2⟩ := (Nat.log2_eq_iff (n := y) (k := Nat.log2 y) (by omega)).1 rfl
    obtain ⟨s, hs⟩ : ∃ s, s = 63 - Nat.log2 y := ⟨_, rfl⟩
    rw [← hs] at hlz
    have hs63 : s ≤ 63 := by omega
    have hY1 : 9223372036854775808 ≤ y * 2 ^ s := by
      have h : 2 ^ Nat.log2 y * 2 ^ s = 2 ^ 63 := by rw [← Nat.pow_add]; congr 1; omega
      have := Nat.mul_le_mul_right (2 ^ s) g1
      omega
    have hY2 : y * 2 ^ s < 18446744073709551616 := by
      have h : 2 ^ (Nat.log2 y + 1) * 2 ^ s = 2 ^ 64 := by rw [← Nat.pow_add]; congr 1; omega
      have := Nat.mul_lt_mul_of_pos_right g2 (Nat.two_pow_pos s)
      omega
    obtain ⟨w1, w2⟩ := shift_word (s := s) (by omega) hlo'
    have hhs : hi * 2 ^ s < y * 2 ^ s := Nat.mul_lt_mul_of_pos_right hhi (Nat.two_pow_pos s)
    have hsum : (hi * 2 ^ s) ||| (lo / 2 ^ (64 - s)) = hi * 2 ^ s + lo / 2 ^ (64 - s) := by
      have := Nat.shiftLeft_add_eq_or_of_lt w2 hi
      rw [Nat.shiftLeft_eq] at this
      exact this.symm
    have hN : (hi * W64 + lo) * 2 ^ s = (hi * 2 ^ s + lo / 2 ^ (64 - s)) * 18446744073709551616 + lo * 2 ^ s % 18446744073709551616 := by
      rw [Nat.add_mul, Nat.add_mul, Nat.mul_right_comm]
      show hi * 2 ^ s * 18446744073709551616 + lo * 2 ^ s = _
      omega
    have hun : hi * 2 ^ s + lo / 2 ^ (64 - s) < y * 2 ^ s := by
      have h1 : (hi + 1) * 2 ^ s ≤ y * 2 ^ s := Nat.mul_le_mul_right _ hhi
      rw [Nat.add_mul] at h1
      omega
    have hfinq : (hi * W64 + lo) / y = (hi * W64 + lo) * 2 ^ s / (y * 2 ^ s) := (Nat.mul_div_mul_right _ _ (Nat.two_pow_pos s)).symm
    have hfinr : (hi * W64 + lo) % y = (hi * W64 + lo) * 2 ^ s % (y * 2 ^ s) / 2 ^ s := by rw [Nat.mul_mod_mul_right, Nat.mul_div_cancel _ (Nat.two_pow_pos s)]
    rw [hfinq, hfinr, hN]
    -- operations
    have b1 : abin .shl (uv y) (uv s) = some (uv (y * 2 ^ s)) := by rw [uv_shlG (by omega), Nat.mod_eq_of_lt hY2]
    have b2 : abin .shl (uv hi) (uv s) = some (uv (hi * 2 ^ s)) := by rw [uv_shlG (by omega), Nat.mod_eq_of_lt (by omega)]
    have b3 : abin .sub (uv 64) (uv s) = some (uv (64 - s)) := uv_sub (by omega) (by omega)
    have b4 : abin .shr (uv lo) (uv (64 - s)) = some (uv (lo / 2 ^ (64 - s))) := uv_shr (k := .u64) hlo'
    have b5 : abin .or (uv (hi * 2 ^ s)) (uv (lo / 2 ^ (64 - s))) = some (uv (hi * 2 ^ s + lo / 2 ^ (64 - s))) := by rw [uv_or (by omega) (by omega), hsum]
    have b6 : abin .shl (uv lo) (uv s) = some (uv (lo * 2 ^ s % 18446744073709551616)) := uv_shlG (by omega)
    have hcs : IntKind.u64.wrap (s : Int) = (s : Int) := by simp [IntKind.wrap, IntKind.bits, IntKind.signed]; omega
    have hcv : Value.int .u64 (IntKind.u64.wrap (s : Int)) = uv s := by rw [hcs]; rfl
    clear hN hfinq hfinr w1 hsum g1 g2 hs
    have hshr : ∀ R : Nat, R < 18446744073709551616 → abin .shr (uv R) (uv s) = some (uv (R / 2 ^ s)) := fun R hR => uv_shr (k := .u64) hR
    have hu10 : lo * 2 ^ s % 18446744073709551616 < 18446744073709551616 := Nat.mod_lt _ (by decide)
    generalize lo * 2 ^ s % 18446744073709551616 = u10 at *
    generalize hun0 : hi * 2 ^ s + lo / 2 ^ (64 - s) = un at *
    generalize lo / 2 ^ (64 - s) = lo2 at *
    generalize hi * 2 ^ s = hi2 at *
    generalize y * 2 ^ s = Y at *
    have c1 : abin .shr (uv Y) (uv 32) = some (uv (Y / 4294967296)) := uv_shr (k := .u64) (n := 32) hY2
    have c2 : abin .and (uv Y) (uv 4294967295) = some (uv (Y % 4294967296)) := by rw [uv_and hY2 (by omega), and32]
    have c3 : abin .shr (uv u10) (uv 32) = some (uv (u10 / 4294967296)) := uv_shr (k := .u64) (n := 32) hu10
    have c4 : abin .and (uv u10) (uv 4294967295) = some (uv (u10 % 4294967296)) := by rw [uv_and hu10 (by omega), and32]
    have hYe : Y / 4294967296 * 4294967296 + Y % 4294967296 = Y := Nat.div_add_mod' _ _
    have hMM : (4294967296 * 4294967296 : Nat) = 18446744073709551616 := rfl
    obtain ⟨y1, hy1d⟩ : ∃ y1, y1 = Y / 4294967296 := ⟨_, rfl⟩
    obtain ⟨y0, hy0d⟩ : ∃ y0, y0 = Y % 4294967296 := ⟨_, rfl⟩
    obtain ⟨u1, hu1d⟩ : ∃ u1, u1 = u10 / 4294967296 := ⟨_, rfl⟩
    obtain ⟨u0, hu0d⟩ : ∃ u0, u0 = u10 % 4294967296 := ⟨_, rfl⟩
    rw [← hy1d] at c1 hYe
    rw [← hy0d] at c2 hYe
    rw [← hu1d] at c3
    rw [← hu0d] at c4
    have hue : u10 = u1 * 4294967296 + u0 := by rw [hu1d, hu0d]; exact (Nat.div_add_mod' _ _).symm
    have hy1 : 0 < y1 ∧ y1 < 4294967296 := by rw [hy1d]; exact ⟨Nat.div_pos (by omega) (by decide), (Nat.div_lt_iff_lt_mul (by decide)).2 (by rw [hMM]; exact hY2)⟩
    have hy0 : y0 < 4294967296 := by rw [hy0d]; exact Nat.mod_lt _ (by decide)
    have hu1 : u1 < 4294967296 := by rw [hu1d]; exact (Nat.div_lt_iff_lt_mul (by decide)).2 (by rw [hMM]; exact hu10)
    have hu0 : u0 < 4294967296 := by rw [hu0d]; exact Nat.mod_lt _ (by decide)
    clear hy1d hy0d hu1d hu0d
    rw [hue]
    have hY0 : 0 < Y := by omega
    have hun64 : un < 18446744073709551616 := Nat.lt_trans hun hY2
    have hval : un * 18446744073709551616 + (u1 * 4294967296 + u0) = un * (4294967296 * 4294967296) + u1 * 4294967296 + u0 := by rw [hMM, Nat.add_assoc]
    rw [hval]
    obtain ⟨t1, t2⟩ := two_digs (M := 4294967296) (un := un) (u1 := u1) (u0 := u0) (y := Y) hY0 (by decide) hu0
    rw [t1, t2]
    obtain ⟨Q1, hQ1d⟩ : ∃ Q1, Q1 = (un * 4294967296 + u1) / Y := ⟨_, rfl⟩
    obtain ⟨R1, hR1d⟩ : ∃ R1, R1 = (un * 4294967296 + u1) % Y := ⟨_, rfl⟩
    obtain ⟨Q0, hQ0d⟩ : ∃ Q0, Q0 = (R1 * 4294967296 + u0) / Y := ⟨_, rfl⟩
    obtain ⟨R0, hR0d⟩ : ∃ R0, R0 = (R1 * 4294967296 + u0) % Y := ⟨_, rfl⟩
    have hR1 : R1 < Y := by rw [hR1d]; exact Nat.mod_lt _ hY0
    have hR0 : R0 < Y := by rw [hR0d]; exact Nat.mod_lt _ hY0
    have hQ1 : Q1 < 4294967296 := by rw [hQ1d]; exact dig_lt hY0 hu1 hun
    have hQ0 : Q0 < 4294967296 := by rw [hQ0d]; exact dig_lt hY0 hu0 hR1
    have dm1 : Q1 * Y + R1 = un * 4294967296 + u1 := by rw [hQ1d, hR1d]; exact Nat.div_add_mod' _ _
    have dm0 : Q0 * Y + R0 = R1 * 4294967296 + u0 := by rw [hQ0d, hR0d]; exact Nat.div_add_mod' _ _
    have st1 := DigI.start (M := 4294967296) (un := un) (un1 := u1) (y1 := y1) (y0 := y0) hy1.1 (by decide) hu1
    have st0 := DigI.start (M := 4294967296) (un := R1) (un1 := u0) (y1 := y1) (y0 := y0) hy1.1 (by decide) hu0
    have hR164 : R1 < 18446744073709551616 := Nat.lt_trans hR1 hY2
    have hR064 : R0 < 18446744073709551616 := Nat.lt_trans hR0 hY2
    obtain ⟨n1, m1, hn1d, hm1d, ny, p1, p2, p3⟩ := fst_subE hun64 hy1.1
    obtain ⟨n0, m0, hn0d, hm0d, ny0, p4, p5, p6⟩ := fst_subE hR164 hy1.1
    obtain ⟨uM, uM1, QY, e1, e2, e3, e4⟩ := dig_left dm1 hR164 hu1
    obtain ⟨rM, rM1, QY0, g1', g2', g3', g4'⟩ := dig_left dm0 hR064 hu0
    have f1 : abin .mul (uv Q1) (uv 4294967296) = some (uv (Q1 * 4294967296)) := by rw [uv_mul, Nat.mod_eq_of_lt (by omega)]
    have f2 : abin .add (uv (Q1 * 4294967296)) (uv Q0) = some (uv (Q1 * 4294967296 + Q0)) := uv_add (by omega)
    have g7 := hshr R0 hR064
    have hn1 : un / y1 < 18446744073709551616 := Nat.lt_of_le_of_lt (Nat.div_le_self _ _) hun64
    have hn0 : R1 / y1 < 18446744073709551616 := Nat.lt_of_le_of_lt (Nat.div_le_self _ _) hR164
    have hm1 : un % y1 < 4294967296 := Nat.lt_trans (Nat.mod_lt _ hy1.1) hy1.2
    have hm0 : R1 % y1 < 4294967296 := Nat.lt_trans (Nat.mod_lt _ hy1.1) hy1.2
    have L1 := fun env h => dig_l1 (H := H) (H1 := H) (un := un) (un1 := u1) (y1 := y1) (y0 := y0) (q := un / y1) hy1 hy0 hu1 (by rw [hYe]; exact hun) (env := env) h
    have L0 := fun env h => dig_l0 (H := H) (H1 := H) (un := R1) (un1 := u0) (y1 := y1) (y0 := y0) (q := R1 / y1) hy1 hy0 hu0 (by rw [hYe]; exact hR1) (env := env) h
    rw [hYe, ← hQ1d] at L1
    rw [hYe, ← hQ0d] at L0
    rw [← hQ1d, ← hR1d, ← hQ0d, ← hR0d]
    clear hQ1d hR1d hQ0d hR0d dm1 dm0 t1 t2 hval hMM hue hYe hun hR1 hR0 hQ1 hQ0
    rw [← hn1d] at L1 st1 hn1
    rw [← hm1d] at st1 hm1
    rw [← hn0d] at L0 st0 hn0
    rw [← hm0d] at st0 hm0
    clear hn1d hm1d hn0d hm0d
    simp (disch := omega) [-getElem?_pos, if_pos, if_neg, decide_eq_true, decide_eq_false, ir_bits_Div64, ↓a1, ↓a2, ↓a3]
    refine AFn.pure hlz ?_
    simp (disch := omega) [-getElem?_pos, if_pos, if_neg, decide_eq_true, decide_eq_false, hcv, ↓b1, ↓b2, ↓b3, ↓b4, ↓b5, ↓b6, ↓c1, ↓c2, ↓c3, ↓c4, ↓p1, ↓p2, ↓p3]
    refine wpC_use (L1 _ ⟨m1, rfl, by simp, by simp, by simp, by simp, by simp, hn1, hm1, st1⟩) ?_
    rintro e env2 H2 ⟨rfl, rfl, f15⟩ hu
    have x2 := hu 2 (by decide)
    have x8 := hu 8 (by decide)
    have x9 := hu 9 (by decide)
    have x10 := hu 10 (by decide)
    have x11 := hu 11 (by decide)
    have x13 := hu 13 (by decide)
    have x14 := hu 14 (by decide)
    simp (disch := omega) [-getElem?_pos, if_pos, if_neg, decide_eq_true, decide_eq_false, x2, x8, x9, x10, x11, x13, x14, f15, ↓e1, ↓e2, ↓e3, ↓e4, ↓p4, ↓p5, ↓p6]
    refine wpC_use (L0 _ ⟨m0, rfl, by simp, by simp, by simp [x14], by simp [x9], by simp [x10], hn0, hm0, st0⟩) ?_
    rintro e env3 H3 ⟨rfl, rfl, g18⟩ hu2
    have z2 := hu2 2 (by decide)
    have z8 := hu2 8 (by decide)
    have z14 := hu2 14 (by decide)
    have z15 := hu2 15 (by decide)
    have z17 := hu2 17 (by decide)
    simp (disch := omega) [-getElem?_pos, if_pos, if_neg, decide_eq_true, decide_eq_false, z2, z8, z14, z15, z17, x2, x8, x14, f15, g18, hcv, ↓f1, ↓f2, ↓g1', ↓g2', ↓g3', ↓g4', ↓g7]
end Go.Proofs.Ytllfcbacpoaphaa
