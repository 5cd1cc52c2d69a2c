/-
  Law 6 (1): of.
-/
import Derived.Test.YtgecnmjohhmfjaaIheap7
set_option maxRecDepth 100000
set_option linter.unusedSimpArgs false
set_option linter.unusedVariables false
namespace Go.Proofs.Ytgecnmjohhmfjaa
open Go Go.Abs
theorem of7_spec {H : AH} (x : Ent) : AFn Try.prog F_law07_of [x.val] H fun u H' => u = x.val ∧ H' = H := by
  refine AFn.calm (fun H0 hs => ?_) rfl
  refine AFn.enter mixed ir_law07_of_eq (by simp [ir_law07_of]) fun hw => ?_
  simp (disch := omega) [-getElem?_pos, if_pos, if_neg, decide_eq_true, decide_eq_false, ir_law07_of, cut, writeA, over]
def ltC (x y : Ent) : Int := if x.b = y.b then if x.d = y.d then if x.s = y.s then 0 else if x.s < y.s then -1 else 1 else if x.d > y.d then -1 else 1 else if x.b < y.b then -1 else 1
theorem Cmp4_spec {H : AH} (x y : Ent) : AFn Try.prog F_ref04_Cmp [x.val, y.val] H fun u H' => u = .int .i64 (ltC x y) ∧ H' = H := by
  refine AFn.calm (fun H0 hs => ?_) rfl
  refine AFn.enter mixed ir_ref04_Cmp_eq (by simp [ir_ref04_Cmp]) fun hw => ?_
  unfold ltC
  by_cases h1 : x.b = y.b
  · by_cases h2 : x.d = y.d
    · by_cases h3 : x.s = y.s
      · simp (disch := omega) [-getElem?_pos, if_pos, if_neg, decide_eq_true, decide_eq_false, ir_ref04_Cmp, h1, h2, h3, cut]
      · by_cases h4 : x.s < y.s <;> simp (disch := omega) [-getElem?_pos, if_pos, if_neg, decide_eq_true, decide_eq_false, ir_ref04_Cmp, h1, h2, h3, h4, cut]
    · by_cases h4 : x.d > y.d <;> simp (disch := omega) [-getElem?_pos, if_pos, if_neg, decide_eq_true, decide_eq_false, ir_ref04_Cmp, h1, h2, h4, cut]
  · by_cases h4 : x.b < y.b <;> simp (disch := omega) [-getElem?_pos, if_pos, if_neg, decide_eq_true, decide_eq_false, ir_ref04_Cmp, h1, h4, cut]
theorem Less4_spec {H : AH} (x y : Ent) : AFn Try.prog F_ref04_Less [x.val, y.val] H fun u H' => u = .bool (x.lt y) ∧ H' = H := by
  refine AFn.calm (fun H0 hs => ?_) rfl
  refine AFn.enter mixed ir_ref04_Less_eq (by simp [ir_ref04_Less]) fun hw => ?_
  have hlt : x.lt y = (decide (ltC x y < 0) || (decide (ltC x y = 0) && decide (x.i < y.i))) := by
    unfold Ent.lt ltC ordC keyC orI cmpI
    simp only [orI, cmpI]
    grind
  rw [hlt]
  simp (disch := omega) [-getElem?_pos, if_pos, if_neg, decide_eq_true, decide_eq_false, ir_ref04_Less, cut]
  refine AFn.pure (Cmp4_spec x y) ?_
  generalize ltC x y = c
  by_cases h1 : c < 0
  · simp (disch := omega) [-getElem?_pos, if_pos, if_neg, decide_eq_true, decide_eq_false, h1, cut]
  · by_cases h2 : c = 0
    · simp (disch := omega) [-getElem?_pos, if_pos, if_neg, decide_eq_true, decide_eq_false, h1, h2, cut]
    · simp (disch := omega) [-getElem?_pos, if_pos, if_neg, decide_eq_true, decide_eq_false, h1, h2, cut]
theorem Less5_spec {H : AH} (x y : Ent) : AFn Try.prog F_ref05_Less [x.val, y.val] H fun u H' => u = .bool (x.lt y) ∧ H' = H := by
  refine AFn.calm (fun H0 hs => ?_) rfl
  refine AFn.enter mixed ir_ref05_Less_eq (by simp [ir_ref05_Less]) fun hw => ?_
  simp (disch := omega) [-getElem?_pos, if_pos, if_neg, decide_eq_true, decide_eq_false, ir_ref05_Less, cut]
  refine AFn.pure (Less4_spec x y) ?_
  simp (disch := omega) [-getElem?_pos, if_pos, if_neg, decide_eq_true, decide_eq_false, ]
end Go.Proofs.Ytgecnmjohhmfjaa
