/-
  Layer 13: are two answers the same?
-/
import Derived.Test.YtlcddhgfkkjhkaaDoorRen
import Derived.Test.YtlcddhgfkkjhkaaDoorIr14
set_option maxRecDepth 100000
set_option linter.unusedSimpArgs false
set_option linter.unusedVariables false
namespace Go.Proofs.YtlcddhgfkkjhkaaDoor
open Go Go.Abs
def Eq13I (H : AH) (v w : Value) (A B : List Int) (k : Nat) (env : Env) (H' : AH) : Prop :=
  env 0 = some v ∧ env 1 = some w ∧ env 12 = some (.int .i64 A.length) ∧ env 13 = some (.int .i64 k) ∧ H' = H ∧ A.take k = B.take k
theorem equal13_spec {p : Nat → Prop} {H : AH} {v w : Value} {A B : List Int} (hA : SlV p H v A) (hB : SlV p H w B) : AFn Tryd.prog F_law14_equal [v, w] H fun u H' => u = .bool (decide (A = B)) ∧ H' = H := by
  obtain ⟨va, vc, rfl⟩ := hA.slice
  obtain ⟨wa, wc, rfl⟩ := hB.slice
  have hAm := hA.max
  have hBm := hB.max
  refine AFn.enter mixed ir_law14_equal_eq (by simp [ir_law14_equal]) fun hw => ?_
  by_cases hl : A.length = B.length
  · simp (disch := omega) [-getElem?_pos, if_pos, if_neg, decide_eq_true, decide_eq_false, ir_law14_equal, hl]
    rw [← hl]
    refine loop_upto A.length (Eq13I H (.slice va A.length vc) (.slice wa B.length wc) A B) ⟨by simp <;> omega, by simp <;> omega, by simp <;> omega, by simp, rfl, by simp⟩ ?_
    rintro k env H' hk ⟨e0, e1, e12, e13, rfl, hy⟩
    by_cases hkn : k < A.length
    · obtain ⟨b, off, sp, cap, cs, ev, q1, q2⟩ := ints_rd hA (by omega)
      obtain ⟨q3, q4⟩ := q2 k hkn
      cases ev
      obtain ⟨b2, off2, sp2, cap2, cs2, ev, r1, r2⟩ := ints_rd hB (by omega)
      have hkn2 : k < B.length := by omega
      obtain ⟨r3, r4⟩ := r2 k hkn2
      cases ev
      have t1 := List.take_succ_eq_append_getElem hkn
      have t2 := List.take_succ_eq_append_getElem hkn2
      by_cases hx : A[k] = B[k]
      · have hy' : A.take (k + 1) = B.take (k + 1) := by rw [t1, t2, hy, hx]
        generalize A[k] = x at *
        generalize B[k] = z at *
        subst hx
        simp (disch := omega) [-getElem?_pos, if_pos, if_neg, decide_eq_true, decide_eq_false, ir_law14_equal_l0, e0, e1, e12, e13, q1, q3, r1, r3, hkn2, IntWalk.i64_in]
        exact ⟨hkn, by simp [e0], by simp [e1], by simp [e12], by simp, rfl, hy'⟩
      · have hne : A ≠ B := fun h => by subst h; exact hx rfl
        generalize A[k] = x at *
        generalize B[k] = z at *
        simp (disch := omega) [-getElem?_pos, if_pos, if_neg, decide_eq_true, decide_eq_false, ir_law14_equal_l0, e0, e1, e12, e13, q1, q3, r1, r3, hx, hkn2, hne, IntWalk.i64_in]
    · obtain rfl : k = A.length := by omega
      simp (disch := omega) [-getElem?_pos, if_pos, if_neg, decide_eq_true, decide_eq_false, ir_law14_equal_l0, e0, e1, e12, e13]
      rw [List.take_length, hl, List.take_length] at hy
      exact hy
  · simp (disch := omega) [-getElem?_pos, if_pos, if_neg, decide_eq_true, decide_eq_false, ir_law14_equal, hl]
    exact fun h => hl (by rw [h])
end Go.Proofs.YtlcddhgfkkjhkaaDoor
