/-
  Instances of few decisions aren't cut.
-/
import Derived.Test.YtlcddhgfkkjhkaaDoorT14
set_option linter.unusedSimpArgs false
set_option linter.unusedVariables false
namespace Go.Proofs.YtlcddhgfkkjhkaaDoor
open Go Go.Abs
theorem clip_tame {m : Nat} {y : InstD} (hm : m ≤ 40) (h : Tame m y) : clipI y = y := by
  obtain ⟨kind, cap, items, cost, size, sets⟩ := y
  have h1 := h.items
  have h2 := h.cost
  have h3 := h.sets
  have h4 := h.elems
  have h5 := h.ok.shaped.rows
  unfold clipI
  simp only at h1 h2 h3 h4 h5 ⊢
  rw [List.take_of_length_le (show items.length ≤ 40 by omega), List.take_of_length_le (show cost.length ≤ 70 by omega), List.take_of_length_le (show sets.length ≤ 40 by omega)]
  congr 1
  · conv => rhs; rw [← List.map_id cost]
    apply List.map_congr_left
    intro r hr
    obtain ⟨i, hi, rfl⟩ := List.getElem_of_mem hr
    exact List.take_of_length_le (by rw [h5 i hi]; omega)
  · conv => rhs; rw [← List.map_id sets]
    apply List.map_congr_left
    intro s hs
    have := h4 s hs
    obtain ⟨c, e⟩ := s
    show SetD.mk c (e.take 40) = ⟨c, e⟩
    rw [List.take_of_length_le (by simp only at this; omega)]
end Go.Proofs.YtlcddhgfkkjhkaaDoor
