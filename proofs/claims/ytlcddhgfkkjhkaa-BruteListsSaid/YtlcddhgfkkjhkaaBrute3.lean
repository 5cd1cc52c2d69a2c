/-
  package brute: orders; what it needs of slices.
-/
import Derived.Test.YtlcddhgfkkjhkaaBrute2
set_option maxRecDepth 100000
set_option linter.unusedSimpArgs false
set_option linter.unusedVariables false
namespace Go.Proofs.Ytlcddhgfkkjhkaa
open Go Go.Abs

def idxV (L : List Int) (y : Int) : Int := if y ∈ L then (L.idxOf y : Int) else -1
def IxI (H : AH) (v : Value) (L : List Int) (y : Int) (k : Nat) (env : Env) (H' : AH) : Prop :=
  env 0 = some v ∧ env 1 = some (.int .i64 y) ∧ env 7 = some (.int .i64 L.length) ∧ env 8 = some (.int .i64 k) ∧ H' = H ∧ y ∉ L.take k
theorem Index_spec {p : Nat → Prop} {H : AH} {v : Value} {L : List Int} {y : Int} (hL : SlV p H v L) : AFn Try.prog F_slices_Index_Lint_int [v, .int .i64 y] H fun u H' => u = .int .i64 (idxV L y) ∧ H' = H := by
  obtain ⟨va, vc, rfl⟩ := hL.slice
  have hLm := hL.max
  refine AFn.enter mixed ir_slices_Index_Lint_int_eq (by simp [ir_slices_Index_Lint_int]) fun hw => ?_
  simp (disch := omega) [-getElem?_pos, if_pos, if_neg, decide_eq_true, decide_eq_false, ir_slices_Index_Lint_int]
  refine loop_upto L.length (IxI H (.slice va L.length vc) L y) ⟨by simp, by simp, by simp, by simp, rfl, by simp⟩ ?_
  rintro k env H' hk ⟨e0, e1, e7, e8, rfl, hy⟩
  by_cases hkn : k < L.length
  · obtain ⟨b, off, sp, cap, cs, ev, q1, q2⟩ := ints_rd hL (by omega)
    obtain ⟨q3, q4⟩ := q2 k hkn
    cases ev
    by_cases hx : y = L[k]
    · have hi : idxV L y = k := by
        have hm : y ∈ L := by rw [hx]; exact List.getElem_mem hkn
        have : L.idxOf y = k := by
          have hs : L = L.take k ++ L[k] :: L.drop (k + 1) := by rw [List.getElem_cons_drop, List.take_append_drop]
          rw [hs, List.idxOf_append, if_neg hy, hx, List.idxOf_cons_self, List.length_take]; omega
        unfold idxV; rw [if_pos hm, this]
      generalize L[k] = x at *
      subst hx
      simp (disch := omega) [-getElem?_pos, if_pos, if_neg, decide_eq_true, decide_eq_false, ir_slices_Index_Lint_int_l0, e0, e1, e7, e8, q1, q3, hi, IntWalk.i64_in]
    · have hy' : y ∉ L.take (k + 1) := by
        rw [List.take_succ_eq_append_getElem hkn]; intro h; rcases List.mem_append.1 h with h | h; exact hy h; simp at h; exact hx h
      generalize L[k] = x at *
      simp (disch := omega) [-getElem?_pos, if_pos, if_neg, decide_eq_true, decide_eq_false, ir_slices_Index_Lint_int_l0, e0, e1, e7, e8, q1, q3, hx, IntWalk.i64_in]
      exact ⟨hkn, by simp [e0], by simp [e1], by simp [e7], by simp, rfl, hy'⟩
  · obtain rfl : k = L.length := by omega
    simp (disch := omega) [-getElem?_pos, if_pos, if_neg, decide_eq_true, decide_eq_false, ir_slices_Index_Lint_int_l0, e0, e1, e7, e8]
    rw [List.take_length] at hy
    unfold idxV; rw [if_neg hy]

def EqI (H : AH) (v w : Value) (A B : List Int) (k : Nat) (env : Env) (H' : AH) : Prop :=
  env 0 = some v ∧ env 1 = some w ∧ env 12 = some (.int .i64 A.length) ∧ env 13 = some (.int .i64 k) ∧ H' = H ∧ A.take k = B.take k
theorem Equal_spec {p : Nat → Prop} {H : AH} {v w : Value} {A B : List Int} (hA : SlV p H v A) (hB : SlV p H w B) : AFn Try.prog F_slices_Equal_Lint_int [v, w] H fun u H' => u = .bool (decide (A = B)) ∧ H' = H := by
  obtain ⟨va, vc, rfl⟩ := hA.slice
  obtain ⟨wa, wc, rfl⟩ := hB.slice
  have hAm := hA.max
  have hBm := hB.max
  refine AFn.enter mixed ir_slices_Equal_Lint_int_eq (by simp [ir_slices_Equal_Lint_int]) fun hw => ?_
  by_cases hl : A.length = B.length
  · simp (disch := omega) [-getElem?_pos, if_pos, if_neg, decide_eq_true, decide_eq_false, ir_slices_Equal_Lint_int, hl]
    rw [← hl]
    refine loop_upto A.length (EqI H (.slice va A.length vc) (.slice wa B.length wc) A B) ⟨by simp <;> omega, by simp <;> omega, by simp <;> omega, by simp, rfl, by simp⟩ ?_
    rintro k env H' hk ⟨e0, e1, e12, e13, rfl, hy⟩
    by_cases hkn : k < A.length
    · obtain ⟨b, off, sp, cap, cs, ev, q1, q2⟩ := ints_rd hA (by omega)
      obtain ⟨q3, q4⟩ := q2 k hkn
      cases ev
      obtain ⟨b2, off2, sp2, cap2, cs2, ev, r1, r2⟩ := ints_rd hB (by omega)
      have hkn2 : k < B.length := by omega
      obtain ⟨r3, r4⟩ := r2 k hkn2
      cases ev
      have t1 := List.take_succ_eq_append_getElem hkn
      have t2 := List.take_succ_eq_append_getElem hkn2
      by_cases hx : A[k] = B[k]
      · have hy' : A.take (k + 1) = B.take (k + 1) := by rw [t1, t2, hy, hx]
        generalize A[k] = x at *
        generalize B[k] = z at *
        subst hx
        simp (disch := omega) [-getElem?_pos, if_pos, if_neg, decide_eq_true, decide_eq_false, ir_slices_Equal_Lint_int_l0, e0, e1, e12, e13, q1, q3, r1, r3, hkn2, IntWalk.i64_in]
        exact ⟨hkn, by simp [e0], by simp [e1], by simp [e12], by simp, rfl, hy'⟩
      · have hne : A ≠ B := fun h => by subst h; exact hx rfl
        generalize A[k] = x at *
        generalize B[k] = z at *
        simp (disch := omega) [-getElem?_pos, if_pos, if_neg, decide_eq_true, decide_eq_false, ir_slices_Equal_Lint_int_l0, e0, e1, e12, e13, q1, q3, r1, r3, hx, hkn2, hne, IntWalk.i64_in]
    · obtain rfl : k = A.length := by omega
      simp (disch := omega) [-getElem?_pos, if_pos, if_neg, decide_eq_true, decide_eq_false, ir_slices_Equal_Lint_int_l0, e0, e1, e12, e13]
      rw [List.take_length, hl, List.take_length] at hy
      exact hy
  · simp (disch := omega) [-getElem?_pos, if_pos, if_neg, decide_eq_true, decide_eq_false, ir_slices_Equal_Lint_int, hl]
    exact fun h => hl (by rw [h])
end Go.Proofs.Ytlcddhgfkkjhkaa
