/-
  PLAIN LAW: the order of entries.
-/
import Derived.Test.YtgecnmjohhmfjaaKey
set_option linter.unusedSimpArgs false
set_option linter.unusedVariables false
namespace Go.Proofs.Ytgecnmjohhmfjaa
open Go Go.Abs
theorem orI_cmp (p q : Int) (l : List Int) : orI (cmpI p q :: l) < 0 ↔ p < q ∨ (p = q ∧ orI l < 0) := by
  unfold cmpI
  by_cases h1 : p < q
  · simp [orI, h1]
  · by_cases h2 : p > q
    · have : p ≠ q := by omega
      simp [orI, h1, h2, this]
    · have : p = q := by omega
      subst this
      simp [orI]
theorem orI_nest (l m : List Int) : orI (orI l :: m) = orI (l ++ m) := by
  induction l with
  | nil => simp [orI]
  | cons a l ih =>
    by_cases h : a = 0
    · subst h; simpa [orI] using ih
    · simp [orI, h]
theorem lt_iff (x y : Ent) : x.lt y = true ↔ x.b < y.b ∨ (x.b = y.b ∧ (y.d < x.d ∨ (y.d = x.d ∧ (x.s < y.s ∨ (x.s = y.s ∧ x.i < y.i))))) := by
  unfold Ent.lt ordC keyC
  rw [decide_eq_true_eq, orI_nest]
  simp only [List.cons_append, List.nil_append, orI_cmp]
  simp [orI]
theorem lt_irrefl (x : Ent) : x.lt x = false := by
  cases h : x.lt x with
  | false => rfl
  | true => rw [lt_iff] at h; omega
theorem lt_trans {x y z : Ent} (h : x.lt y = true) (k : y.lt z = true) : x.lt z = true := by
  rw [lt_iff] at *; omega
theorem lt_asymm {x y : Ent} (h : x.lt y = true) : y.lt x = false := by
  cases k : y.lt x with
  | false => rfl
  | true => rw [lt_iff] at *; omega
theorem lt_total {x y : Ent} (h : x.lt y = false) (k : y.lt x = false) : x = y := by
  have h' : ¬ (x.lt y = true) := by simp [h]
  have k' : ¬ (y.lt x = true) := by simp [k]
  rw [lt_iff] at h' k'
  obtain ⟨a, b, c, d⟩ := x
  obtain ⟨a', b', c', d'⟩ := y
  simp only at h' k'
  simp only [Ent.mk.injEq]
  omega
theorem not_lt_trans {x y z : Ent} (h : x.lt y = false) (k : y.lt z = false) : x.lt z = false := by
  cases hz : x.lt z with
  | false => rfl
  | true =>
    cases hy : y.lt x with
    | true => rw [lt_trans hy hz] at k; cases k
    | false => have := lt_total h hy; subst this; rw [hz] at k; cases k
theorem cmpI_neg (p q : Int) : cmpI p q = -cmpI q p := by unfold cmpI; repeat' split <;> omega
theorem orI_neg (p q : Int) (l m : List Int) (h : orI l = -orI m) : orI (cmpI p q :: l) = -orI (cmpI q p :: m) := by
  have := cmpI_neg p q
  by_cases h0 : cmpI q p = 0
  · have h1 : cmpI p q = 0 := by omega
    simp [orI, h0, h1, h]
  · have h1 : cmpI p q ≠ 0 := by omega
    simp [orI, h0, h1, this]
theorem keyC_neg (x y : Ent) : keyC x y = -keyC y x := by
  unfold keyC
  exact orI_neg _ _ _ _ (orI_neg _ _ _ _ (orI_neg _ _ _ _ (by simp [orI])))
end Go.Proofs.Ytgecnmjohhmfjaa
