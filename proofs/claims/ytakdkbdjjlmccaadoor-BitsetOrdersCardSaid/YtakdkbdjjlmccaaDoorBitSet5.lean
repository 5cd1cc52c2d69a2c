/-
  Contracts of package bitset (5): Rank, Last; the library's Len64.
-/
import Derived.Test.YtakdkbdjjlmccaaDoorBitSet4
set_option maxRecDepth 100000
set_option linter.unusedSimpArgs false
set_option linter.unusedVariables false
namespace Go.Proofs.YtakdkbdjjlmccaaDoor
open Go Go.Abs

theorem wb_mask (A : List Bool) (k r : Nat) (hr : r ≤ 64) : wb A k &&& (2 ^ r - 1) = nb ((A.drop (64 * k)).take r) := by
  apply Nat.eq_of_testBit_eq
  intro j
  rw [Nat.testBit_and, Nat.testBit_two_pow_sub_one, nb_bit]
  by_cases hj : j < r
  · rw [wb_bit A k j (by omega), List.getD_eq_getElem?_getD, List.getD_eq_getElem?_getD, List.getElem?_take_of_lt hj, List.getElem?_drop]
    simp [hj]
  · rw [List.getD_eq_getElem?_getD, List.getElem?_eq_none (by simp; omega)]
    simp [hj]

theorem count_part (A : List Bool) (k r : Nat) (hr : r ≤ 64) : (A.take (64 * k + r)).count true = (A.take (64 * k)).count true + cntN (wb A k &&& (2 ^ r - 1)) := by
  rw [wb_mask A k r hr, cntN, nb_sum 64 _ (by simp; omega), List.take_add, List.count_append]

def RankI (A : List Bool) (i : Int) (sl : Value) (H1 : AH) (k : Nat) (env : Env) (H' : AH) : Prop :=
  H' = H1 ∧ env 1 = some (.int .i64 i) ∧ env 10 = some sl ∧ env 11 = some (.int .i64 (nw A.length : Nat)) ∧ env 12 = some (.int .i64 k) ∧ env 5 = some (.int .i64 ((A.take (min i.toNat (64 * k))).count true : Nat))

theorem Rank_spec {p : Nat → Prop} {H : AH} {v : Value} {A : List Bool} (hA : SetB p H v A) (i : Int) : AFn Tryd.prog F_bitset_Set_Rank [v, .int .i64 i] H fun u H' => u = .int .i64 ((A.take i.toNat).count true : Nat) ∧ H' = H := by
  refine AFn.calm (fun H0 hs => ?_) rfl
  obtain ⟨sl, rfl, h2, h3⟩ := hA.same hs
  refine AFn.enter mixed ir_bitset_Set_Rank_eq (by simp [ir_bitset_Set_Rank]) fun hw => ?_
  obtain ⟨a, c, rfl⟩ := h2.slice
  simp (disch := omega) [-getElem?_pos, if_pos, if_neg, decide_eq_true, decide_eq_false, ir_bitset_Set_Rank]
  generalize hH1 : H0.alloc _ = H1
  have h2' : Vw p H1 1 (.slice a (nw A.length) c) (nw A.length) ((words A).map uv) := hH1 ▸ h2.kept hw .alloc
  have hnn : nw A.length ≤ 65 := by unfold nw; omega
  refine wpC_use (loop_upto (nw A.length) (RankI A i (.slice a (nw A.length) c) H1) (Q := fun e env H => (e = .exit 0 ∧ env 5 = some (.int .i64 ((A.take i.toNat).count true : Nat))) ∨ (e = .ret ∧ env 4 = some (.int .i64 ((A.take i.toNat).count true : Nat)))) ⟨rfl, by simp, by simp, by simp, by simp, by simp⟩ ?_) fun e env2 H2 he _ => ?_
  · rintro k env H hk ⟨rfl, e1, e10, e11, e12, e5⟩
    by_cases hkn : k < nw A.length
    · obtain ⟨b, off, sp, cap, cs, hsl, h5, h6⟩ := words_at h2' (by omega)
      cases hsl
      have h7 := h6 k hkn
      have hlt := wb_lt A k
      by_cases hi : i ≤ 64 * k
      · rw [Nat.min_eq_left (by omega)] at e5
        simp (disch := omega) [-getElem?_pos, if_pos, if_neg, decide_eq_true, decide_eq_false, ir_bitset_Set_Rank_l0, e1, e10, e11, e12, e5, h5, h7, IntWalk.i64_in]
      · rw [Nat.min_eq_right (by omega)] at e5
        have hcl := count_le (A.take (64 * k))
        have hcl2 : (A.take (64 * k)).length ≤ A.length := by simp; omega
        by_cases hi2 : i < 64 * k + 64
        · obtain ⟨r, hr⟩ : ∃ r : Nat, i = 64 * k + r := ⟨(i - 64 * k).toNat, by omega⟩
          have hr64 : r < 64 := by omega
          have h2r : 2 ^ r < 18446744073709551616 := Nat.pow_lt_pow_right (a := 2) (n := 64) (by omega) hr64
          have s1 : abin .shl (uv 1) (.int .i64 (r : Int)) = some (uv (2 ^ r)) := uv_shl1 hr64
          have s2 : abin .sub (uv (2 ^ r)) (uv 1) = some (uv (2 ^ r - 1)) := uv_sub Nat.one_le_two_pow h2r
          have s3 : abin .and (uv (wb A k)) (uv (2 ^ r - 1)) = some (uv (wb A k &&& (2 ^ r - 1))) := uv_and hlt (by omega)
          have hcp := count_part A k r (by omega)
          have hx := and_lt' (b := 2 ^ r - 1) hlt
          have hri : i - (k : Int) * 64 = r := by omega
          have hmin : min i.toNat (64 * (k + 1)) = 64 * k + r := by omega
          have hcl3 := count_le (A.take (64 * k + r))
          have hcl4 : (A.take (64 * k + r)).length ≤ A.length := by simp; omega
          have hones : ∀ H, AFn Tryd.prog F_bits_OnesCount64 [uv (wb A k &&& (2 ^ r - 1))] H fun u H' => u = .int .i64 (cntN (wb A k &&& (2 ^ r - 1)) : Nat) ∧ H' = H := fun H => OnesCount64_spec hx
          generalize wb A k &&& (2 ^ r - 1) = z at *
          generalize 2 ^ r - 1 = y at *
          generalize 2 ^ r = w at *
          generalize wb A k = x at *
          clear h2r hlt hx
          have hn1 : ¬ (i ≤ (k : Int) * 64) := by omega
          have hn2 : i < (k : Int) * 64 + 64 := by omega
          simp (disch := omega) [-getElem?_pos, if_pos, if_neg, decide_eq_true, decide_eq_false, ir_bitset_Set_Rank_l0, e1, e10, e11, e12, e5, h5, h7, hri, ↓s1, ↓s2, ↓s3, IntWalk.i64_in]
          refine AFn.pure (hones _) ?_
          simp (disch := omega) [-getElem?_pos, if_pos, if_neg, decide_eq_true, decide_eq_false, e1, e10, e11, e12, e5, IntWalk.i64_in]
          refine ⟨hkn, rfl, by simp [e1], by simp [e10], by simp [e11], by simp, ?_⟩
          rw [hmin, hcp]
          simp
        · have hct := count_take A k
          have hcl3 := count_le (A.take (64 * (k + 1)))
          have hcl4 : (A.take (64 * (k + 1))).length ≤ A.length := by simp; omega
          have hmin : min i.toNat (64 * (k + 1)) = 64 * (k + 1) := by omega
          simp (disch := omega) [-getElem?_pos, if_pos, if_neg, decide_eq_true, decide_eq_false, ir_bitset_Set_Rank_l0, e1, e10, e11, e12, e5, h5, h7, IntWalk.i64_in]
          refine AFn.pure (OnesCount64_spec hlt) ?_
          simp (disch := omega) [-getElem?_pos, if_pos, if_neg, decide_eq_true, decide_eq_false, e1, e10, e11, e12, e5, IntWalk.i64_in]
          refine ⟨hkn, rfl, by simp [e1], by simp [e10], by simp [e11], by simp, ?_⟩
          rw [hmin, hct]
          simp
    · obtain rfl : k = nw A.length := by omega
      have : (A.take (min i.toNat (64 * nw A.length))).count true = (A.take i.toNat).count true := by
        by_cases h : i.toNat ≤ 64 * nw A.length
        · rw [Nat.min_eq_left h]
        · rw [Nat.min_eq_right (by omega), List.take_of_length_le (by unfold nw; omega), List.take_of_length_le (by unfold nw at h; omega)]
      rw [this] at e5
      simp (disch := omega) [-getElem?_pos, if_pos, if_neg, decide_eq_true, decide_eq_false, ir_bitset_Set_Rank_l0, e11, e12]
      exact e5
  · rcases he with ⟨rfl, h5⟩ | ⟨rfl, h4⟩
    · simp (disch := omega) [-getElem?_pos, if_pos, if_neg, decide_eq_true, decide_eq_false, h5]
    · simp (disch := omega) [-getElem?_pos, if_pos, if_neg, decide_eq_true, decide_eq_false, h4]

theorem len8 : ∀ b, b < 256 → 0 < b → (str_0[b]?).map UInt8.toNat = some (Nat.log2 b + 1) := by decide +kernel

theorem log2_div {x m : Nat} (h : 2 ^ m ≤ x) : Nat.log2 (x / 2 ^ m) = Nat.log2 x - m ∧ m ≤ Nat.log2 x := by
  have hp : 0 < 2 ^ m := Nat.two_pow_pos m
  have hx : x ≠ 0 := by omega
  obtain ⟨h1, h2⟩ := (Nat.log2_eq_iff hx).1 rfl
  have hm : m ≤ Nat.log2 x := by
    apply Classical.byContradiction
    intro hc
    have : 2 ^ (Nat.log2 x + 1) ≤ 2 ^ m := Nat.pow_le_pow_right (by omega) (by omega)
    omega
  have hd : x / 2 ^ m ≠ 0 := by have := (Nat.le_div_iff_mul_le hp).2 (show 1 * 2 ^ m ≤ x by omega); omega
  refine ⟨(Nat.log2_eq_iff hd).2 ⟨?_, ?_⟩, hm⟩
  · rw [Nat.le_div_iff_mul_le hp, ← Nat.pow_add, Nat.sub_add_cancel hm]; exact h1
  · rw [Nat.div_lt_iff_lt_mul hp, ← Nat.pow_add, show Nat.log2 x - m + 1 + m = Nat.log2 x + 1 by omega]; exact h2

/-- The last stage: a number below 256. -/
theorem len_fin {y : Nat} (h : y < 256) (h0 : 0 < y) : ∃ b : UInt8, str_0[y]? = some b ∧ b.toNat = Nat.log2 y + 1 := by
  have := len8 y h h0
  cases hb : str_0[y]? with
  | none => rw [hb] at this; cases this
  | some b => rw [hb] at this; exact ⟨b, rfl, by simpa using this⟩

theorem Len64_spec {H : AH} {x : Nat} (hx : x < 18446744073709551616) (h0 : 0 < x) : AFn Tryd.prog F_bits_Len64 [uv x] H fun u H' => u = .int .i64 (Nat.log2 x + 1 : Nat) ∧ H' = H := by
  refine AFn.enter mixed ir_bits_Len64_eq (by simp [ir_bits_Len64]) fun hw => ?_
  by_cases h0 : 4294967296 ≤ x
  · obtain ⟨l0, m0⟩ := log2_div (x := x) (m := 32) h0
    have g0 : abin .geq (uv x) (uv 4294967296) = some (.bool true) := by rw [uv_geq]; simp; omega
    have s0 : abin .shr (uv x) (uv 32) = some (uv (x / 2 ^ 32)) := uv_shr (n := 32) (by omega)
    have b0 : x / 2 ^ 32 < 4294967296 ∧ 0 < x / 2 ^ 32 := by omega
    generalize x / 2 ^ 32 = y0 at *
    by_cases h1 : 65536 ≤ y0
    · obtain ⟨l1, m1⟩ := log2_div (x := y0) (m := 16) h1
      have g1 : abin .geq (uv y0) (uv 65536) = some (.bool true) := by rw [uv_geq]; simp; omega
      have s1 : abin .shr (uv y0) (uv 16) = some (uv (y0 / 2 ^ 16)) := uv_shr (n := 16) (by omega)
      have b1 : y0 / 2 ^ 16 < 65536 ∧ 0 < y0 / 2 ^ 16 := by omega
      generalize y0 / 2 ^ 16 = y1 at *
      by_cases h2 : 256 ≤ y1
      · obtain ⟨l2, m2⟩ := log2_div (x := y1) (m := 8) h2
        have g2 : abin .geq (uv y1) (uv 256) = some (.bool true) := by rw [uv_geq]; simp; omega
        have s2 : abin .shr (uv y1) (uv 8) = some (uv (y1 / 2 ^ 8)) := uv_shr (n := 8) (by omega)
        have b2 : y1 / 2 ^ 8 < 256 ∧ 0 < y1 / 2 ^ 8 := by omega
        generalize y1 / 2 ^ 8 = y2 at *
        obtain ⟨b, hb1, hb2⟩ := len_fin (y := y2) (by omega) (by omega)
        have hb3 : b.toNat < 256 := by have := b.toNat_lt; omega
        have hw8 : IntKind.u8.wrap (y2 : Int) = y2 := by simp [IntKind.wrap, IntKind.signed, IntKind.bits]; omega
        have hfin : Nat.log2 x + 1 = 56 + b.toNat := by omega
        rw [hfin]
        simp (disch := omega) [-getElem?_pos, if_pos, if_neg, decide_eq_true, decide_eq_false, ir_bits_Len64, ↓g0, ↓s0, ↓g1, ↓s1, ↓g2, ↓s2]
        simp only [uv_def]
        simp (disch := omega) [-getElem?_pos, if_pos, if_neg, decide_eq_true, decide_eq_false, hw8, hb1, IntWalk.i64_in]
      · have g2 : abin .geq (uv y1) (uv 256) = some (.bool false) := by rw [uv_geq]; simp; omega
        obtain ⟨b, hb1, hb2⟩ := len_fin (y := y1) (by omega) (by omega)
        have hb3 : b.toNat < 256 := by have := b.toNat_lt; omega
        have hw8 : IntKind.u8.wrap (y1 : Int) = y1 := by simp [IntKind.wrap, IntKind.signed, IntKind.bits]; omega
        have hfin : Nat.log2 x + 1 = 48 + b.toNat := by omega
        rw [hfin]
        simp (disch := omega) [-getElem?_pos, if_pos, if_neg, decide_eq_true, decide_eq_false, ir_bits_Len64, ↓g0, ↓s0, ↓g1, ↓s1, ↓g2]
        simp only [uv_def]
        simp (disch := omega) [-getElem?_pos, if_pos, if_neg, decide_eq_true, decide_eq_false, hw8, hb1, IntWalk.i64_in]
    · have g1 : abin .geq (uv y0) (uv 65536) = some (.bool false) := by rw [uv_geq]; simp; omega
      by_cases h2 : 256 ≤ y0
      · obtain ⟨l2, m2⟩ := log2_div (x := y0) (m := 8) h2
        have g2 : abin .geq (uv y0) (uv 256) = some (.bool true) := by rw [uv_geq]; simp; omega
        have s2 : abin .shr (uv y0) (uv 8) = some (uv (y0 / 2 ^ 8)) := uv_shr (n := 8) (by omega)
        have b2 : y0 / 2 ^ 8 < 256 ∧ 0 < y0 / 2 ^ 8 := by omega
        generalize y0 / 2 ^ 8 = y2 at *
        obtain ⟨b, hb1, hb2⟩ := len_fin (y := y2) (by omega) (by omega)
        have hb3 : b.toNat < 256 := by have := b.toNat_lt; omega
        have hw8 : IntKind.u8.wrap (y2 : Int) = y2 := by simp [IntKind.wrap, IntKind.signed, IntKind.bits]; omega
        have hfin : Nat.log2 x + 1 = 40 + b.toNat := by omega
        rw [hfin]
        simp (disch := omega) [-getElem?_pos, if_pos, if_neg, decide_eq_true, decide_eq_false, ir_bits_Len64, ↓g0, ↓s0, ↓g1, ↓g2, ↓s2]
        simp only [uv_def]
        simp (disch := omega) [-getElem?_pos, if_pos, if_neg, decide_eq_true, decide_eq_false, hw8, hb1, IntWalk.i64_in]
      · have g2 : abin .geq (uv y0) (uv 256) = some (.bool false) := by rw [uv_geq]; simp; omega
        obtain ⟨b, hb1, hb2⟩ := len_fin (y := y0) (by omega) (by omega)
        have hb3 : b.toNat < 256 := by have := b.toNat_lt; omega
        have hw8 : IntKind.u8.wrap (y0 : Int) = y0 := by simp [IntKind.wrap, IntKind.signed, IntKind.bits]; omega
        have hfin : Nat.log2 x + 1 = 32 + b.toNat := by omega
        rw [hfin]
        simp (disch := omega) [-getElem?_pos, if_pos, if_neg, decide_eq_true, decide_eq_false, ir_bits_Len64, ↓g0, ↓s0, ↓g1, ↓g2]
        simp only [uv_def]
        simp (disch := omega) [-getElem?_pos, if_pos, if_neg, decide_eq_true, decide_eq_false, hw8, hb1, IntWalk.i64_in]
  · have g0 : abin .geq (uv x) (uv 4294967296) = some (.bool false) := by rw [uv_geq]; simp; omega
    by_cases h1 : 65536 ≤ x
    · obtain ⟨l1, m1⟩ := log2_div (x := x) (m := 16) h1
      have g1 : abin .geq (uv x) (uv 65536) = some (.bool true) := by rw [uv_geq]; simp; omega
      have s1 : abin .shr (uv x) (uv 16) = some (uv (x / 2 ^ 16)) := uv_shr (n := 16) (by omega)
      have b1 : x / 2 ^ 16 < 65536 ∧ 0 < x / 2 ^ 16 := by omega
      generalize x / 2 ^ 16 = y1 at *
      by_cases h2 : 256 ≤ y1
      · obtain ⟨l2, m2⟩ := log2_div (x := y1) (m := 8) h2
        have g2 : abin .geq (uv y1) (uv 256) = some (.bool true) := by rw [uv_geq]; simp; omega
        have s2 : abin .shr (uv y1) (uv 8) = some (uv (y1 / 2 ^ 8)) := uv_shr (n := 8) (by omega)
        have b2 : y1 / 2 ^ 8 < 256 ∧ 0 < y1 / 2 ^ 8 := by omega
        generalize y1 / 2 ^ 8 = y2 at *
        obtain ⟨b, hb1, hb2⟩ := len_fin (y := y2) (by omega) (by omega)
        have hb3 : b.toNat < 256 := by have := b.toNat_lt; omega
        have hw8 : IntKind.u8.wrap (y2 : Int) = y2 := by simp [IntKind.wrap, IntKind.signed, IntKind.bits]; omega
        have hfin : Nat.log2 x + 1 = 24 + b.toNat := by omega
        rw [hfin]
        simp (disch := omega) [-getElem?_pos, if_pos, if_neg, decide_eq_true, decide_eq_false, ir_bits_Len64, ↓g0, ↓g1, ↓s1, ↓g2, ↓s2]
        simp only [uv_def]
        simp (disch := omega) [-getElem?_pos, if_pos, if_neg, decide_eq_true, decide_eq_false, hw8, hb1, IntWalk.i64_in]
      · have g2 : abin .geq (uv y1) (uv 256) = some (.bool false) := by rw [uv_geq]; simp; omega
        obtain ⟨b, hb1, hb2⟩ := len_fin (y := y1) (by omega) (by omega)
        have hb3 : b.toNat < 256 := by have := b.toNat_lt; omega
        have hw8 : IntKind.u8.wrap (y1 : Int) = y1 := by simp [IntKind.wrap, IntKind.signed, IntKind.bits]; omega
        have hfin : Nat.log2 x + 1 = 16 + b.toNat := by omega
        rw [hfin]
        simp (disch := omega) [-getElem?_pos, if_pos, if_neg, decide_eq_true, decide_eq_false, ir_bits_Len64, ↓g0, ↓g1, ↓s1, ↓g2]
        simp only [uv_def]
        simp (disch := omega) [-getElem?_pos, if_pos, if_neg, decide_eq_true, decide_eq_false, hw8, hb1, IntWalk.i64_in]
    · have g1 : abin .geq (uv x) (uv 65536) = some (.bool false) := by rw [uv_geq]; simp; omega
      by_cases h2 : 256 ≤ x
      · obtain ⟨l2, m2⟩ := log2_div (x := x) (m := 8) h2
        have g2 : abin .geq (uv x) (uv 256) = some (.bool true) := by rw [uv_geq]; simp; omega
        have s2 : abin .shr (uv x) (uv 8) = some (uv (x / 2 ^ 8)) := uv_shr (n := 8) (by omega)
        have b2 : x / 2 ^ 8 < 256 ∧ 0 < x / 2 ^ 8 := by omega
        generalize x / 2 ^ 8 = y2 at *
        obtain ⟨b, hb1, hb2⟩ := len_fin (y := y2) (by omega) (by omega)
        have hb3 : b.toNat < 256 := by have := b.toNat_lt; omega
        have hw8 : IntKind.u8.wrap (y2 : Int) = y2 := by simp [IntKind.wrap, IntKind.signed, IntKind.bits]; omega
        have hfin : Nat.log2 x + 1 = 8 + b.toNat := by omega
        rw [hfin]
        simp (disch := omega) [-getElem?_pos, if_pos, if_neg, decide_eq_true, decide_eq_false, ir_bits_Len64, ↓g0, ↓g1, ↓g2, ↓s2]
        simp only [uv_def]
        simp (disch := omega) [-getElem?_pos, if_pos, if_neg, decide_eq_true, decide_eq_false, hw8, hb1, IntWalk.i64_in]
      · have g2 : abin .geq (uv x) (uv 256) = some (.bool false) := by rw [uv_geq]; simp; omega
        obtain ⟨b, hb1, hb2⟩ := len_fin (y := x) (by omega) (by omega)
        have hb3 : b.toNat < 256 := by have := b.toNat_lt; omega
        have hw8 : IntKind.u8.wrap (x : Int) = x := by simp [IntKind.wrap, IntKind.signed, IntKind.bits]; omega
        have hfin : Nat.log2 x + 1 = 0 + b.toNat := by omega
        rw [hfin]
        simp (disch := omega) [-getElem?_pos, if_pos, if_neg, decide_eq_true, decide_eq_false, ir_bits_Len64, ↓g0, ↓g1, ↓g2]
        simp only [uv_def]
        simp (disch := omega) [-getElem?_pos, if_pos, if_neg, decide_eq_true, decide_eq_false, hw8, hb1, IntWalk.i64_in]
end Go.Proofs.YtakdkbdjjlmccaaDoor
