/-
  A number of two words is divided by one: bits.Div64.
-/
import Derived.Test.YtllfcbacpoaphaaKdiv
import Derived.Test.YtllfcbacpoaphaaNum3
set_option maxRecDepth 100000
set_option linter.unusedSimpArgs false
set_option linter.unusedVariables false
namespace Go.Proofs.Ytllfcbacpoaphaa
open Go Go.Abs
theorem log2_div {x m : Nat} (h : 2 ^ m ≤ x) : Nat.log2 (x / 2 ^ m) = Nat.log2 x - m ∧ m ≤ Nat.log2 x := by
  have hp : 0 < 2 ^ m := Nat.two_pow_pos m
  have hx : x ≠ 0 := by omega
  obtain ⟨h1, h2⟩ := (Nat.log2_eq_iff hx).1 rfl
  have hm : m ≤ Nat.log2 x := by
    apply Classical.byContradiction
    intro hc
    have : 2 ^ (Nat.log2 x + 1) ≤ 2 ^ m := Nat.pow_le_pow_right (by omega) (by omega)
    omega
  have hd : x / 2 ^ m ≠ 0 := by have := (Nat.le_div_iff_mul_le hp).2 (show 1 * 2 ^ m ≤ x by omega); omega
  refine ⟨(Nat.log2_eq_iff hd).2 ⟨?_, ?_⟩, hm⟩
  · rw [Nat.le_div_iff_mul_le hp, ← Nat.pow_add, Nat.sub_add_cancel hm]; exact h1
  · rw [Nat.div_lt_iff_lt_mul hp, ← Nat.pow_add, show Nat.log2 x - m + 1 + m = Nat.log2 x + 1 by omega]; exact h2
theorem len8 : ∀ b, b < 256 → 0 < b → (str_0[b]?).map UInt8.toNat = some (Nat.log2 b + 1) := by decide +kernel
theorem len_fin {y : Nat} (h : y < 256) (h0 : 0 < y) : ∃ b : UInt8, str_0[y]? = some b ∧ b.toNat = Nat.log2 y + 1 := by
  have := len8 y h h0
  cases hb : str_0[y]? with
  | none => rw [hb] at this; cases this
  | some b => rw [hb] at this; exact ⟨b, rfl, by simpa using this⟩
theorem Len64_spec {H : AH} {x : Nat} (hx : x < 18446744073709551616) (h0 : 0 < x) : AFn Try.prog F_bits_Len64 [uv x] H fun u H' => u = .int .i64 (Nat.log2 x + 1 : Nat) ∧ H' = H := by
  refine AFn.enter mixed ir_bits_Len64_eq (by simp [ir_bits_Len64]) fun hw => ?_
  by_cases h0 : 4294967296 ≤ x
  · obtain ⟨l0, m0⟩ := log2_div (x := x) (m := 32) h0
    have g0 : abin .geq (uv x) (uv 4294967296) = some (.bool true) := by rw [uv_geq]; simp; omega
    have s0 : abin .shr (uv x) (uv 32) = some (uv (x / 2 ^ 32)) := uv_shr (n := 32) (by omega)
    have b0 : x / 2 ^ 32 < 4294967296 ∧ 0 < x / 2 ^ 32 := by omega
    generalize x / 2 ^ 32 = y0 at *
    by_cases h1 : 65536 ≤ y0
    · obtain ⟨l1, m1⟩ := log2_div (x := y0) (m := 16) h1
      have g1 : abin .geq (uv y0) (uv 65536) = some (.bool true) := by rw [uv_geq]; simp; omega
      have s1 : abin .shr (uv y0) (uv 16) = some (uv (y0 / 2 ^ 16)) := uv_shr (n := 16) (by omega)
      have b1 : y0 / 2 ^ 16 < 65536 ∧ 0 < y0 / 2 ^ 16 := by omega
      generalize y0 / 2 ^ 16 = y1 at *
      by_cases h2 : 256 ≤ y1
      · obtain ⟨l2, m2⟩ := log2_div (x := y1) (m := 8) h2
        have g2 : abin .geq (uv y1) (uv 256) = some (.bool true) := by rw [uv_geq]; simp; omega
        have s2 : abin .shr (uv y1) (uv 8) = some (uv (y1 / 2 ^ 8)) := uv_shr (n := 8) (by omega)
        have b2 : y1 / 2 ^ 8 < 256 ∧ 0 < y1 / 2 ^ 8 := by omega
        generalize y1 / 2 ^ 8 = y2 at *
        obtain ⟨b, hb1, hb2⟩ := len_fin (y := y2) (by omega) (by omega)
        have hb3 : b.toNat < 256 := by have := b.toNat_lt; omega
        have hw8 : IntKind.u8.wrap (y2 : Int) = y2 := by simp [IntKind.wrap, IntKind.signed, IntKind.bits]; omega
        have hfin : Nat.log2 x + 1 = 56 + b.toNat := by omega
        rw [hfin]
        simp (disch := omega) [-getElem?_pos, if_pos, if_neg, decide_eq_true, decide_eq_false, ir_bits_Len64, ↓g0, ↓s0, ↓g1, ↓s1, ↓g2, ↓s2]
        simp only [uv_def]
        simp (disch := omega) [-getElem?_pos, if_pos, if_neg, decide_eq_true, decide_eq_false, hw8, hb1, IntWalk.i64_in]
      · have g2 : abin .geq (uv y1) (uv 256) = some (.bool false) := by rw [uv_geq]; simp; omega
        obtain ⟨b, hb1, hb2⟩ := len_fin (y := y1) (by omega) (by omega)
        have hb3 : b.toNat < 256 := by have := b.toNat_lt; omega
        have hw8 : IntKind.u8.wrap (y1 : Int) = y1 := by simp [IntKind.wrap, IntKind.signed, IntKind.bits]; omega
        have hfin : Nat.log2 x + 1 = 48 + b.toNat := by omega
        rw [hfin]
        simp (disch := omega) [-getElem?_pos, if_pos, if_neg, decide_eq_true, decide_eq_false, ir_bits_Len64, ↓g0, ↓s0, ↓g1, ↓s1, ↓g2]
        simp only [uv_def]
        simp (disch := omega) [-getElem?_pos, if_pos, if_neg, decide_eq_true, decide_eq_false, hw8, hb1, IntWalk.i64_in]
    · have g1 : abin .geq (uv y0) (uv 65536) = some (.bool false) := by rw [uv_geq]; simp; omega
      by_cases h2 : 256 ≤ y0
      · obtain ⟨l2, m2⟩ := log2_div (x := y0) (m := 8) h2
        have g2 : abin .geq (uv y0) (uv 256) = some (.bool true) := by rw [uv_geq]; simp; omega
        have s2 : abin .shr (uv y0) (uv 8) = some (uv (y0 / 2 ^ 8)) := uv_shr (n := 8) (by omega)
        have b2 : y0 / 2 ^ 8 < 256 ∧ 0 < y0 / 2 ^ 8 := by omega
        generalize y0 / 2 ^ 8 = y2 at *
        obtain ⟨b, hb1, hb2⟩ := len_fin (y := y2) (by omega) (by omega)
        have hb3 : b.toNat < 256 := by have := b.toNat_lt; omega
        have hw8 : IntKind.u8.wrap (y2 : Int) = y2 := by simp [IntKind.wrap, IntKind.signed, IntKind.bits]; omega
        have hfin : Nat.log2 x + 1 = 40 + b.toNat := by omega
        rw [hfin]
        simp (disch := omega) [-getElem?_pos, if_pos, if_neg, decide_eq_true, decide_eq_false, ir_bits_Len64, ↓g0, ↓s0, ↓g1, ↓g2, ↓s2]
        simp only [uv_def]
        simp (disch := omega) [-getElem?_pos, if_pos, if_neg, decide_eq_true, decide_eq_false, hw8, hb1, IntWalk.i64_in]
      · have g2 : abin .geq (uv y0) (uv 256) = some (.bool false) := by rw [uv_geq]; simp; omega
        obtain ⟨b, hb1, hb2⟩ := len_fin (y := y0) (by omega) (by omega)
        have hb3 : b.toNat < 256 := by have := b.toNat_lt; omega
        have hw8 : IntKind.u8.wrap (y0 : Int) = y0 := by simp [IntKind.wrap, IntKind.signed, IntKind.bits]; omega
        have hfin : Nat.log2 x + 1 = 32 + b.toNat := by omega
        rw [hfin]
        simp (disch := omega) [-getElem?_pos, if_pos, if_neg, decide_eq_true, decide_eq_false, ir_bits_Len64, ↓g0, ↓s0, ↓g1, ↓g2]
        simp only [uv_def]
        simp (disch := omega) [-getElem?_pos, if_pos, if_neg, decide_eq_true, decide_eq_false, hw8, hb1, IntWalk.i64_in]
  · have g0 : abin .geq (uv x) (uv 4294967296) = some (.bool false) := by rw [uv_geq]; simp; omega
    by_cases h1 : 65536 ≤ x
    · obtain ⟨l1, m1⟩ := log2_div (x := x) (m := 16) h1
      have g1 : abin .geq (uv x) (uv 65536) = some (.bool true) := by rw [uv_geq]; simp; omega
      have s1 : abin .shr (uv x) (uv 16) = some (uv (x / 2 ^ 16)) := uv_shr (n := 16) (by omega)
      have b1 : x / 2 ^ 16 < 65536 ∧ 0 < x / 2 ^ 16 := by omega
      generalize x / 2 ^ 16 = y1 at *
      by_cases h2 : 256 ≤ y1
      · obtain ⟨l2, m2⟩ := log2_div (x := y1) (m := 8) h2
        have g2 : abin .geq (uv y1) (uv 256) = some (.bool true) := by rw [uv_geq]; simp; omega
        have s2 : abin .shr (uv y1) (uv 8) = some (uv (y1 / 2 ^ 8)) := uv_shr (n := 8) (by omega)
        have b2 : y1 / 2 ^ 8 < 256 ∧ 0 < y1 / 2 ^ 8 := by omega
        generalize y1 / 2 ^ 8 = y2 at *
        obtain ⟨b, hb1, hb2⟩ := len_fin (y := y2) (by omega) (by omega)
        have hb3 : b.toNat < 256 := by have := b.toNat_lt; omega
        have hw8 : IntKind.u8.wrap (y2 : Int) = y2 := by simp [IntKind.wrap, IntKind.signed, IntKind.bits]; omega
        have hfin : Nat.log2 x + 1 = 24 + b.toNat := by omega
        rw [hfin]
        simp (disch := omega) [-getElem?_pos, if_pos, if_neg, decide_eq_true, decide_eq_false, ir_bits_Len64, ↓g0, ↓g1, ↓s1, ↓g2, ↓s2]
        simp only [uv_def]
        simp (disch := omega) [-getElem?_pos, if_pos, if_neg, decide_eq_true, decide_eq_false, hw8, hb1, IntWalk.i64_in]
      · have g2 : abin .geq (uv y1) (uv 256) = some (.bool false) := by rw [uv_geq]; simp; omega
        obtain ⟨b, hb1, hb2⟩ := len_fin (y := y1) (by omega) (by omega)
        have hb3 : b.toNat < 256 := by have := b.toNat_lt; omega
        have hw8 : IntKind.u8.wrap (y1 : Int) = y1 := by simp [IntKind.wrap, IntKind.signed, IntKind.bits]; omega
        have hfin : Nat.log2 x + 1 = 16 + b.toNat := by omega
        rw [hfin]
        simp (disch := omega) [-getElem?_pos, if_pos, if_neg, decide_eq_true, decide_eq_false, ir_bits_Len64, ↓g0, ↓g1, ↓s1, ↓g2]
        simp only [uv_def]
        simp (disch := omega) [-getElem?_pos, if_pos, if_neg, decide_eq_true, decide_eq_false, hw8, hb1, IntWalk.i64_in]
    · have g1 : abin .geq (uv x) (uv 65536) = some (.bool false) := by rw [uv_geq]; simp; omega
      by_cases h2 : 256 ≤ x
      · obtain ⟨l2, m2⟩ := log2_div (x := x) (m := 8) h2
        have g2 : abin .geq (uv x) (uv 256) = some (.bool true) := by rw [uv_geq]; simp; omega
        have s2 : abin .shr (uv x) (uv 8) = some (uv (x / 2 ^ 8)) := uv_shr (n := 8) (by omega)
        have b2 : x / 2 ^ 8 < 256 ∧ 0 < x / 2 ^ 8 := by omega
        generalize x / 2 ^ 8 = y2 at *
        obtain ⟨b, hb1, hb2⟩ := len_fin (y := y2) (by omega) (by omega)
        have hb3 : b.toNat < 256 := by have := b.toNat_lt; omega
        have hw8 : IntKind.u8.wrap (y2 : Int) = y2 := by simp [IntKind.wrap, IntKind.signed, IntKind.bits]; omega
        have hfin : Nat.log2 x + 1 = 8 + b.toNat := by omega
        rw [hfin]
        simp (disch := omega) [-getElem?_pos, if_pos, if_neg, decide_eq_true, decide_eq_false, ir_bits_Len64, ↓g0, ↓g1, ↓g2, ↓s2]
        simp only [uv_def]
        simp (disch := omega) [-getElem?_pos, if_pos, if_neg, decide_eq_true, decide_eq_false, hw8, hb1, IntWalk.i64_in]
      · have g2 : abin .geq (uv x) (uv 256) = some (.bool false) := by rw [uv_geq]; simp; omega
        obtain ⟨b, hb1, hb2⟩ := len_fin (y := x) (by omega) (by omega)
        have hb3 : b.toNat < 256 := by have := b.toNat_lt; omega
        have hw8 : IntKind.u8.wrap (x : Int) = x := by simp [IntKind.wrap, IntKind.signed, IntKind.bits]; omega
        have hfin : Nat.log2 x + 1 = 0 + b.toNat := by omega
        rw [hfin]
        simp (disch := omega) [-getElem?_pos, if_pos, if_neg, decide_eq_true, decide_eq_false, ir_bits_Len64, ↓g0, ↓g1, ↓g2]
        simp only [uv_def]
        simp (disch := omega) [-getElem?_pos, if_pos, if_neg, decide_eq_true, decide_eq_false, hw8, hb1, IntWalk.i64_in]
theorem LeadingZeros64_spec {H : AH} {x : Nat} (hx : x < 18446744073709551616) (h0 : 0 < x) : AFn Try.prog F_bits_LeadingZeros64 [uv x] H fun u H' => u = .int .i64 ((63 - Nat.log2 x : Nat) : Int) ∧ H' = H := by
  refine AFn.enter mixed ir_bits_LeadingZeros64_eq (by simp [ir_bits_LeadingZeros64]) fun hw => ?_
  have hlt : Nat.log2 x < 64 := (Nat.log2_lt (by omega)).2 hx
  have h1 := Len64_spec (H := H) hx h0
  generalize Nat.log2 x = l at *
  have h2 : IntKind.i64.wrap (64 - ((l + 1 : Nat) : Int)) = ((63 - l : Nat) : Int) := by rw [IntWalk.i64_in _ (by omega)]; omega
  simp (disch := omega) [-getElem?_pos, if_pos, if_neg, decide_eq_true, decide_eq_false, ir_bits_LeadingZeros64]
  refine AFn.pure h1 ?_
  generalize hl1 : l + 1 = l1 at *
  simp (disch := omega) [-getElem?_pos, if_pos, if_neg, decide_eq_true, decide_eq_false, h2]
theorem wrapN (n : Nat) : IntKind.u64.wrap (n : Int) = ((n % 18446744073709551616 : Nat) : Int) := by
  simp [IntKind.wrap, IntKind.signed, IntKind.bits]
theorem uv_shlG {a n : Nat} (h : n < 64) : abin .shl (uv a) (uv n) = some (uv (a * 2 ^ n % 18446744073709551616)) := by
  simp only [abin, uv]
  rw [if_neg (by omega), min64, Nat.min_eq_left (by omega)]
  have h2 : (a : Int) * 2 ^ n = ((a * 2 ^ n : Nat) : Int) := by norm_cast
  rw [h2, wrapN]
theorem uv_addG {a b : Nat} : abin .add (uv a) (uv b) = some (uv ((a + b) % 18446744073709551616)) := by
  simp only [abin, uv, ne_eq, not_true, if_false]
  rw [← Int.natCast_add, wrapN]
theorem uv_subG {a b : Nat} (ha : a < 18446744073709551616) (hb : b < 18446744073709551616) : abin .sub (uv a) (uv b) = some (uv ((a + 18446744073709551616 - b) % 18446744073709551616)) := by
  simp only [abin, uv, ne_eq, not_true, if_false]
  congr 2
  simp only [IntKind.wrap, IntKind.signed, IntKind.bits]
  simp
  omega
theorem uv_quoG {a b : Nat} (ha : a < 18446744073709551616) (hb : 0 < b) : abin .quo (uv a) (uv b) = some (uv (a / b)) := by
  have hbI : ¬ (b : Int) = 0 := by omega
  have hle : a / b < 18446744073709551616 := Nat.lt_of_le_of_lt (Nat.div_le_self _ _) ha
  simp only [uv, abin, ne_eq, not_true, if_false]
  rw [if_neg hbI, Int.tdiv_eq_ediv_of_nonneg (by omega), ← Int.natCast_ediv, wrap_u64 hle]
theorem uv_remG {a b : Nat} (ha : a < 18446744073709551616) (hb : 0 < b) : abin .rem (uv a) (uv b) = some (uv (a % b)) := by
  have hbI : ¬ (b : Int) = 0 := by omega
  have hle : a % b < 18446744073709551616 := Nat.lt_of_le_of_lt (Nat.mod_le _ _) ha
  simp only [uv, abin, ne_eq, not_true, if_false]
  rw [if_neg hbI, Int.tmod_eq_emod_of_nonneg (by omega), ← Int.natCast_emod]
def Dgl1I (H : AH) (un un1 y1 y0 : Nat) (q : Nat) (env : Env) (H' : AH) : Prop :=
  ∃ r, H' = H ∧ env 15 = some (uv q) ∧ env 16 = some (uv r) ∧ env 13 = some (uv un1) ∧ env 9 = some (uv y1) ∧ env 10 = some (uv y0) ∧ q < W64 ∧ r < 4294967296 ∧ DigI 4294967296 un un1 y1 y0 q r
theorem dig_l1 {H H1 : AH} {un un1 y1 y0 q : Nat} (hy1 : 0 < y1 ∧ y1 < 4294967296) (hy0 : y0 < 4294967296) (hu : un1 < 4294967296) (hun : un < y1 * 4294967296 + y0) {env : Env} (h : Dgl1I H un un1 y1 y0 q env H1) :
    wpC Try.prog 135 (.loop ir_bits_Div64_l1) (fun e env' H' => e = .exit 0 ∧ H' = H ∧ env' 15 = some (uv ((un * 4294967296 + un1) / (y1 * 4294967296 + y0)))) env H1 := by
  refine loop_rule (Dgl1I H un un1 y1 y0) (Q := fun e env' H' => e = .exit 0 ∧ H' = H ∧ env' 15 = some (uv ((un * 4294967296 + un1) / (y1 * 4294967296 + y0)))) ?_ (j := q) h
  rintro q env H' ⟨r, rfl, eq, er, eu, e1, e0, hq, hr, hI⟩
  have hq' : q < 18446744073709551616 := hq
  have hyp : 0 < y1 * 4294967296 + y0 := by omega
  have c1 : abin .geq (uv q) (uv 4294967296) = some (.bool (decide (q ≥ 4294967296))) := uv_geq
  -- what is done when it is too great
  have hbody : (4294967296 ≤ q ∨ r * 4294967296 + un1 < q * y0) → 1 ≤ q ∧ DigI 4294967296 un un1 y1 y0 (q - 1) (r + y1) := fun h => hI.less hyp hu hun h
  have d1 : 1 ≤ q → abin .sub (uv q) (uv 1) = some (uv (q - 1)) := fun h => uv_sub h hq'
  have d2 : abin .add (uv r) (uv y1) = some (uv (r + y1)) := uv_add (by omega)
  have d3 : abin .geq (uv (r + y1)) (uv 4294967296) = some (.bool (decide (r + y1 ≥ 4294967296))) := uv_geq
  by_cases hbig : 4294967296 ≤ q
  · rw [decide_eq_true (show q ≥ 4294967296 from hbig)] at c1
    obtain ⟨hq1, hI2⟩ := hbody (.inl hbig)
    have d1' := d1 hq1
    generalize hq2 : q - 1 = q2 at *
    generalize hr2 : r + y1 = r2 at *
    by_cases hf : 4294967296 ≤ r2
    · rw [decide_eq_true (show r2 ≥ 4294967296 from hf)] at d3
      have hfar := hI2.far hy1.1 hy0 hun hf
      simp (disch := omega) [-getElem?_pos, if_pos, if_neg, decide_eq_true, decide_eq_false, ir_bits_Div64_l1, eq, er, eu, e1, e0, ↓c1, ↓d1', ↓d2, ↓d3]
      rw [hfar]
    · rw [decide_eq_false (show ¬ r2 ≥ 4294967296 from hf)] at d3
      simp (disch := omega) [-getElem?_pos, if_pos, if_neg, decide_eq_true, decide_eq_false, ir_bits_Div64_l1, eq, er, eu, e1, e0, ↓c1, ↓d1', ↓d2, ↓d3]
      exact ⟨q2, by omega, r2, rfl, by simp, by simp, by simp [eu], by simp [e1], by simp [e0], by show q2 < 18446744073709551616; omega, by omega, hI2⟩
  · rw [decide_eq_false (show ¬ q ≥ 4294967296 from hbig)] at c1
    have hp : q * y0 ≤ 4294967295 * 4294967295 := Nat.mul_le_mul (by omega) (by omega)
    have m1 : abin .mul (uv q) (uv y0) = some (uv (q * y0)) := by rw [uv_mul, Nat.mod_eq_of_lt (by omega)]
    have m2 : abin .mul (uv 4294967296) (uv r) = some (uv (4294967296 * r)) := by rw [uv_mul, Nat.mod_eq_of_lt (by omega)]
    have m3 : abin .add (uv (4294967296 * r)) (uv un1) = some (uv (4294967296 * r + un1)) := uv_add (by omega)
    have m4 : abin .gtr (uv (q * y0)) (uv (4294967296 * r + un1)) = some (.bool (decide (q * y0 > 4294967296 * r + un1))) := uv_gtr
    have hdone : q * y0 ≤ r * 4294967296 + un1 → q = (un * 4294967296 + un1) / (y1 * 4294967296 + y0) := fun h => hI.done hyp h
    generalize q * y0 = qy at *
    by_cases hgt : qy > 4294967296 * r + un1
    · rw [decide_eq_true hgt] at m4
      obtain ⟨hq1, hI2⟩ := hbody (.inr (by omega))
      have d1' := d1 hq1
      clear hdone
      generalize 4294967296 * r + un1 = s1 at *
      generalize 4294967296 * r = s2 at *
      generalize hq2 : q - 1 = q2 at *
      generalize hr2 : r + y1 = r2 at *
      by_cases hf : 4294967296 ≤ r2
      · rw [decide_eq_true (show r2 ≥ 4294967296 from hf)] at d3
        have hfar := hI2.far hy1.1 hy0 hun hf
        simp (disch := omega) [-getElem?_pos, if_pos, if_neg, decide_eq_true, decide_eq_false, ir_bits_Div64_l1, eq, er, eu, e1, e0, ↓c1, ↓m1, ↓m2, ↓m3, ↓m4, ↓d1', ↓d2, ↓d3]
        rw [hfar]
      · rw [decide_eq_false (show ¬ r2 ≥ 4294967296 from hf)] at d3
        simp (disch := omega) [-getElem?_pos, if_pos, if_neg, decide_eq_true, decide_eq_false, ir_bits_Div64_l1, eq, er, eu, e1, e0, ↓c1, ↓m1, ↓m2, ↓m3, ↓m4, ↓d1', ↓d2, ↓d3]
        exact ⟨q2, by omega, r2, rfl, by simp, by simp, by simp [eu], by simp [e1], by simp [e0], by show q2 < 18446744073709551616; omega, by omega, hI2⟩
    · rw [decide_eq_false hgt] at m4
      have hq3 := hdone (by omega)
      generalize 4294967296 * r + un1 = s1 at *
      generalize 4294967296 * r = s2 at *
      simp (disch := omega) [-getElem?_pos, if_pos, if_neg, decide_eq_true, decide_eq_false, ir_bits_Div64_l1, eq, er, eu, e1, e0, ↓c1, ↓m1, ↓m2, ↓m3, ↓m4]
      rw [← hq3]
def Dgl0I (H : AH) (un un1 y1 y0 : Nat) (q : Nat) (env : Env) (H' : AH) : Prop :=
  ∃ r, H' = H ∧ env 18 = some (uv q) ∧ env 16 = some (uv r) ∧ env 14 = some (uv un1) ∧ env 9 = some (uv y1) ∧ env 10 = some (uv y0) ∧ q < W64 ∧ r < 4294967296 ∧ DigI 4294967296 un un1 y1 y0 q r
theorem dig_l0 {H H1 : AH} {un un1 y1 y0 q : Nat} (hy1 : 0 < y1 ∧ y1 < 4294967296) (hy0 : y0 < 4294967296) (hu : un1 < 4294967296) (hun : un < y1 * 4294967296 + y0) {env : Env} (h : Dgl0I H un un1 y1 y0 q env H1) :
    wpC Try.prog 135 (.loop ir_bits_Div64_l0) (fun e env' H' => e = .exit 2 ∧ H' = H ∧ env' 18 = some (uv ((un * 4294967296 + un1) / (y1 * 4294967296 + y0)))) env H1 := by
  refine loop_rule (Dgl0I H un un1 y1 y0) (Q := fun e env' H' => e = .exit 2 ∧ H' = H ∧ env' 18 = some (uv ((un * 4294967296 + un1) / (y1 * 4294967296 + y0)))) ?_ (j := q) h
  rintro q env H' ⟨r, rfl, eq, er, eu, e1, e0, hq, hr, hI⟩
  have hq' : q < 18446744073709551616 := hq
  have hyp : 0 < y1 * 4294967296 + y0 := by omega
  have c1 : abin .geq (uv q) (uv 4294967296) = some (.bool (decide (q ≥ 4294967296))) := uv_geq
  -- what is done when it is too great
  have hbody : (4294967296 ≤ q ∨ r * 4294967296 + un1 < q * y0) → 1 ≤ q ∧ DigI 4294967296 un un1 y1 y0 (q - 1) (r + y1) := fun h => hI.less hyp hu hun h
  have d1 : 1 ≤ q → abin .sub (uv q) (uv 1) = some (uv (q - 1)) := fun h => uv_sub h hq'
  have d2 : abin .add (uv r) (uv y1) = some (uv (r + y1)) := uv_add (by omega)
  have d3 : abin .geq (uv (r + y1)) (uv 4294967296) = some (.bool (decide (r + y1 ≥ 4294967296))) := uv_geq
  by_cases hbig : 4294967296 ≤ q
  · rw [decide_eq_true (show q ≥ 4294967296 from hbig)] at c1
    obtain ⟨hq1, hI2⟩ := hbody (.inl hbig)
    have d1' := d1 hq1
    generalize hq2 : q - 1 = q2 at *
    generalize hr2 : r + y1 = r2 at *
    by_cases hf : 4294967296 ≤ r2
    · rw [decide_eq_true (show r2 ≥ 4294967296 from hf)] at d3
      have hfar := hI2.far hy1.1 hy0 hun hf
      simp (disch := omega) [-getElem?_pos, if_pos, if_neg, decide_eq_true, decide_eq_false, ir_bits_Div64_l0, eq, er, eu, e1, e0, ↓c1, ↓d1', ↓d2, ↓d3]
      rw [hfar]
    · rw [decide_eq_false (show ¬ r2 ≥ 4294967296 from hf)] at d3
      simp (disch := omega) [-getElem?_pos, if_pos, if_neg, decide_eq_true, decide_eq_false, ir_bits_Div64_l0, eq, er, eu, e1, e0, ↓c1, ↓d1', ↓d2, ↓d3]
      exact ⟨q2, by omega, r2, rfl, by simp, by simp, by simp [eu], by simp [e1], by simp [e0], by show q2 < 18446744073709551616; omega, by omega, hI2⟩
  · rw [decide_eq_false (show ¬ q ≥ 4294967296 from hbig)] at c1
    have hp : q * y0 ≤ 4294967295 * 4294967295 := Nat.mul_le_mul (by omega) (by omega)
    have m1 : abin .mul (uv q) (uv y0) = some (uv (q * y0)) := by rw [uv_mul, Nat.mod_eq_of_lt (by omega)]
    have m2 : abin .mul (uv 4294967296) (uv r) = some (uv (4294967296 * r)) := by rw [uv_mul, Nat.mod_eq_of_lt (by omega)]
    have m3 : abin .add (uv (4294967296 * r)) (uv un1) = some (uv (4294967296 * r + un1)) := uv_add (by omega)
    have m4 : abin .gtr (uv (q * y0)) (uv (4294967296 * r + un1)) = some (.bool (decide (q * y0 > 4294967296 * r + un1))) := uv_gtr
    have hdone : q * y0 ≤ r * 4294967296 + un1 → q = (un * 4294967296 + un1) / (y1 * 4294967296 + y0) := fun h => hI.done hyp h
    generalize q * y0 = qy at *
    by_cases hgt : qy > 4294967296 * r + un1
    · rw [decide_eq_true hgt] at m4
      obtain ⟨hq1, hI2⟩ := hbody (.inr (by omega))
      have d1' := d1 hq1
      clear hdone
      generalize 4294967296 * r + un1 = s1 at *
      generalize 4294967296 * r = s2 at *
      generalize hq2 : q - 1 = q2 at *
      generalize hr2 : r + y1 = r2 at *
      by_cases hf : 4294967296 ≤ r2
      · rw [decide_eq_true (show r2 ≥ 4294967296 from hf)] at d3
        have hfar := hI2.far hy1.1 hy0 hun hf
        simp (disch := omega) [-getElem?_pos, if_pos, if_neg, decide_eq_true, decide_eq_false, ir_bits_Div64_l0, eq, er, eu, e1, e0, ↓c1, ↓m1, ↓m2, ↓m3, ↓m4, ↓d1', ↓d2, ↓d3]
        rw [hfar]
      · rw [decide_eq_false (show ¬ r2 ≥ 4294967296 from hf)] at d3
        simp (disch := omega) [-getElem?_pos, if_pos, if_neg, decide_eq_true, decide_eq_false, ir_bits_Div64_l0, eq, er, eu, e1, e0, ↓c1, ↓m1, ↓m2, ↓m3, ↓m4, ↓d1', ↓d2, ↓d3]
        exact ⟨q2, by omega, r2, rfl, by simp, by simp, by simp [eu], by simp [e1], by simp [e0], by show q2 < 18446744073709551616; omega, by omega, hI2⟩
    · rw [decide_eq_false hgt] at m4
      have hq3 := hdone (by omega)
      generalize 4294967296 * r + un1 = s1 at *
      generalize 4294967296 * r = s2 at *
      simp (disch := omega) [-getElem?_pos, if_pos, if_neg, decide_eq_true, decide_eq_false, ir_bits_Div64_l0, eq, er, eu, e1, e0, ↓c1, ↓m1, ↓m2, ↓m3, ↓m4]
      rw [← hq3]
end Go.Proofs.Ytllfcbacpoaphaa
