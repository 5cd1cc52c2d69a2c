/-
  PLAIN LAW: a number of two words is divided by one: digit by digit.
-/
import Derived.Test.YtllfcbacpoaphaaA5
set_option maxRecDepth 100000
set_option linter.unusedSimpArgs false
set_option linter.unusedVariables false
namespace Go.Abs
structure DigI (M un un1 y1 y0 q r : Nat) : Prop where
  sum : q * y1 + r = un
  ge : (un * M + un1) / (y1 * M + y0) ≤ q
theorem dig_val {M un un1 y1 q r : Nat} (h : q * y1 + r = un) : un * M + un1 = q * y1 * M + (r * M + un1) := by
  rw [← h, Nat.add_mul]; omega
theorem dig_prod (M y1 y0 q : Nat) : q * (y1 * M + y0) = q * y1 * M + q * y0 := by rw [Nat.mul_add, Nat.mul_assoc]
theorem DigI.start {M un un1 y1 y0 : Nat} (h1 : 0 < y1) (hM : 0 < M) (hu : un1 < M) : DigI M un un1 y1 y0 (un / y1) (un % y1) := by
  refine ⟨Nat.div_add_mod' un y1, ?_⟩
  refine Nat.le_trans (Nat.div_le_div_left (Nat.le_add_right (y1 * M) y0) (Nat.mul_pos h1 hM)) ?_
  rw [Nat.mul_comm y1 M, ← Nat.div_div_eq_div_mul, Nat.mul_comm un M, Nat.mul_add_div hM, Nat.div_eq_of_lt hu]
  exact Nat.le_refl _
theorem DigI.less {M un un1 y1 y0 q r : Nat} (h : DigI M un un1 y1 y0 q r) (hy : 0 < y1 * M + y0) (hu : un1 < M) (hun : un < y1 * M + y0) (hc : M ≤ q ∨ r * M + un1 < q * y0) : 1 ≤ q ∧ DigI M un un1 y1 y0 (q - 1) (r + y1) := by
  have hlt : (un * M + un1) / (y1 * M + y0) < q := by
    rw [Nat.div_lt_iff_lt_mul hy]
    rcases hc with hc | hc
    · have h1 : (un + 1) * M ≤ (y1 * M + y0) * M := Nat.mul_le_mul_right M hun
      have h2 : M * (y1 * M + y0) ≤ q * (y1 * M + y0) := Nat.mul_le_mul_right _ hc
      rw [Nat.mul_comm (y1 * M + y0) M] at h1
      rw [Nat.add_mul] at h1
      omega
    · rw [dig_prod, dig_val h.sum]; omega
  have hq : 1 ≤ q := Nat.lt_of_le_of_lt (Nat.zero_le _) hlt
  refine ⟨hq, ?_, by omega⟩
  have := h.sum
  have e : (q - 1) * y1 + y1 = q * y1 := by rw [← Nat.succ_mul]; congr 1; omega
  omega
theorem DigI.done {M un un1 y1 y0 q r : Nat} (h : DigI M un un1 y1 y0 q r) (hy : 0 < y1 * M + y0) (hc : q * y0 ≤ r * M + un1) : q = (un * M + un1) / (y1 * M + y0) := by
  refine Nat.le_antisymm ?_ h.ge
  rw [Nat.le_div_iff_mul_le hy, dig_prod, dig_val h.sum]; omega
theorem DigI.far {M un un1 y1 y0 q r : Nat} (h : DigI M un un1 y1 y0 q r) (hy1 : 0 < y1) (hy0 : y0 < M) (hun : un < y1 * M + y0) (hr : M ≤ r) : q = (un * M + un1) / (y1 * M + y0) := by
  have hs := h.sum
  have hq : q < M := by
    have : q * y1 < M * y1 := by rw [Nat.mul_comm M y1]; omega
    exact Nat.lt_of_mul_lt_mul_right this
  have h1 : q * y0 ≤ M * y0 := Nat.mul_le_mul_right y0 (Nat.le_of_lt hq)
  have h2 : M * y0 ≤ M * M := Nat.mul_le_mul_left M (Nat.le_of_lt hy0)
  have h3 : M * M ≤ r * M := Nat.mul_le_mul_right M hr
  exact h.done (by omega) (by omega)
theorem dig_lt {M un un1 y : Nat} (hy : 0 < y) (hu : un1 < M) (hun : un < y) : (un * M + un1) / y < M := by
  rw [Nat.div_lt_iff_lt_mul hy, Nat.mul_comm M y]
  have h1 : (un + 1) * M ≤ y * M := Nat.mul_le_mul_right M hun
  rw [Nat.add_mul] at h1
  omega
theorem two_digs {M un u1 u0 y : Nat} (hy : 0 < y) (hM : 0 < M) (h0 : u0 < M) : (un * (M * M) + u1 * M + u0) / y = (un * M + u1) / y * M + ((un * M + u1) % y * M + u0) / y ∧ (un * (M * M) + u1 * M + u0) % y = ((un * M + u1) % y * M + u0) % y := by
  have e : un * (M * M) + u1 * M + u0 = y * ((un * M + u1) / y * M) + ((un * M + u1) % y * M + u0) := by
    have h1 := Nat.div_add_mod (un * M + u1) y
    have h2 : (un * M + u1) * M = (y * ((un * M + u1) / y) + (un * M + u1) % y) * M := by rw [h1]
    rw [Nat.add_mul, Nat.add_mul, Nat.mul_assoc, Nat.mul_assoc] at h2
    omega
  rw [e]
  exact ⟨by rw [Nat.mul_add_div hy], by rw [Nat.mul_add_mod]⟩
end Go.Abs
