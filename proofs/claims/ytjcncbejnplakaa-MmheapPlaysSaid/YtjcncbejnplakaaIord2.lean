/-
  Plain law: an interval heap with one more, which is to rise.
-/
import Derived.Test.YtjcncbejnplakaaIord
namespace Go.Abs
variable {α : Type} {lt : α → α → Bool}

theorem push_lo {f : Nat → α} {n : Nat} (h : StF lt f n) (he : n % 2 = 0) (hh : n < 2 ∨ lt (f ((n / 2 - 1) / 2 * 2 + 1)) (f n) = false) : Rise0 lt f (n + 1) n := by
  refine ⟨by omega, he, fun i k hi hk hE hn => ?_, fun h2 k hk hE => ?_⟩
  · by_cases hin : i = n
    · subst hin
      have a1 : 2 ≤ i ∧ k = (i / 2 - 1) / 2 * 2 + 1 := by unfold Edge at hE; omega
      rw [a1.2]
      rcases hh with hh | hh
      · omega
      · exact hh
    · by_cases hkn : k = n
      · exfalso; unfold Edge at hE; omega
      · exact h i k (by omega) (by omega) hE
  · have a1 : k = (n / 2 - 1) / 2 * 2 + 1 := by unfold Edge at hE; omega
    rw [a1]
    exact h _ _ (by omega) (by omega) (by unfold Edge; omega)

theorem push_hi (ho : IsOrd lt) {f : Nat → α} {n : Nat} (h : StF lt f n) (he : n % 2 = 0) (h2 : 2 ≤ n) (hh : lt (f ((n / 2 - 1) / 2 * 2 + 1)) (f n) = true) : Rise1 lt f (n + 1) n := by
  have hp : lt (f ((n / 2 - 1) / 2 * 2 + 1)) (f ((n / 2 - 1) / 2 * 2)) = false := h _ _ (by omega) (by omega) (by unfold Edge; omega)
  refine ⟨by omega, .inr rfl, fun i k hi hk hE hn => ?_, fun _ i hi hE => ?_⟩
  · by_cases hin : i = n
    · exfalso; unfold Edge at hE; omega
    · by_cases hkn : k = n
      · have a1 : i = (n / 2 - 1) / 2 * 2 := by unfold Edge at hE; omega
        rw [a1, hkn]
        exact ho.le_trans hp (ho.asymm hh)
      · exact h i k (by omega) (by omega) hE
  · have a1 : i = (n / 2 - 1) / 2 * 2 := by unfold Edge at hE; omega
    rw [a1]; exact hp

theorem push_mate (ho : IsOrd lt) {f : Nat → α} {n : Nat} (h : StF lt f n) (he : n % 2 = 1) (hh : lt (f n) (f (n - 1)) = false) : Rise1 lt f (n + 1) n := by
  refine ⟨by omega, .inl he, fun i k hi hk hE hn => ?_, fun h2 i hi hE => ?_⟩
  · by_cases hin : i = n
    · exfalso; unfold Edge at hE; omega
    · by_cases hkn : k = n
      · subst hkn
        by_cases hi1 : i = k - 1
        · rw [hi1]; exact hh
        · exact ho.le_trans (h i (k - 1) (by omega) (by omega) (by unfold Edge at hE ⊢; omega)) hh
      · exact h i k (by omega) (by omega) hE
  · by_cases hi1 : i = n - 1
    · exact h _ _ (by omega) (by omega) (by unfold Edge; omega)
    · have a1 : i = (n / 2 - 1) / 2 * 2 := by unfold Edge at hE; omega
      rw [a1]
      exact h _ _ (by omega) (by omega) (by unfold Edge; omega)

theorem push_turn (ho : IsOrd lt) {f : Nat → α} {n : Nat} (h : StF lt f n) (he : n % 2 = 1) (hh : lt (f n) (f (n - 1)) = true) : Rise0 lt (sw f n (n - 1)) (n + 1) (n - 1) := by
  have hx := ho.asymm hh
  have hne : n - 1 ≠ n := by omega
  have g : ∀ m, m < n - 1 → sw f n (n - 1) m = f m := fun m hm => by simp only [sw, show m ≠ n by omega, show m ≠ n - 1 by omega, if_false]
  have g1 : sw f n (n - 1) n = f (n - 1) := by simp only [sw, if_true]
  have g2 : sw f n (n - 1) (n - 1) = f n := by simp only [sw, hne, if_true, if_false]
  refine ⟨by omega, by omega, fun i k hi hk hE hn => ?_, fun h2 k hk hE => ?_⟩
  · by_cases hin : i = n
    · subst hin
      have a1 : k < i - 1 := by unfold Edge at hE; omega
      rw [g k a1, g1]
      exact h _ _ (by omega) (by omega) (by unfold Edge at hE ⊢; omega)
    · by_cases hin1 : i = n - 1
      · subst hin1
        by_cases hkn : k = n
        · rw [hkn, g1, g2]; exact hx
        · have a1 : k < n - 1 := by unfold Edge at hE; omega
          rw [g k a1, g2]
          exact ho.le_trans hx (h (n - 1) k (by omega) (by omega) hE)
      · rw [g i (by omega)]
        by_cases hkn : k = n
        · rw [hkn, g1]
          exact h _ _ (by omega) (by omega) (by unfold Edge at hE ⊢; omega)
        · have a1 : k ≠ n - 1 := fun hc => by unfold Edge at hE; omega
          rw [g k (by omega)]
          exact h _ _ (by omega) (by omega) hE
  · rw [g (((n - 1) / 2 - 1) / 2 * 2) (by omega)]
    by_cases hkn : k = n
    · rw [hkn, g1]
      exact h _ _ (by omega) (by omega) (by unfold Edge; omega)
    · have a1 : k = ((n - 1) / 2 - 1) / 2 * 2 + 1 := by unfold Edge at hE; omega
      rw [a1, g _ (by omega)]
      exact h _ _ (by omega) (by omega) (by unfold Edge; omega)
end Go.Abs
