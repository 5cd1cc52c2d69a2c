/-
  Plain law: an interval heap stands right when something has risen.
-/
import Derived.Test.YtjcncbejnplakaaSorted
namespace Go.Abs
variable {α : Type} {lt : α → α → Bool}

/-- Whose place comes no later than whose. -/
def Edge (i k : Nat) : Prop := (i % 2 = 0 ∧ k = i + 1) ∨ (2 ≤ k ∧ i = (k / 2 - 1) / 2 * 2) ∨ (2 ≤ i ∧ k = (i / 2 - 1) / 2 * 2 + 1)
def StF (lt : α → α → Bool) (f : Nat → α) (n : Nat) : Prop := ∀ i k, i < n → k < n → Edge i k → lt (f k) (f i) = false
def sw (f : Nat → α) (i k m : Nat) : α := if m = i then f k else if m = k then f i else f m

/-- Right but for what stands at one place and may be too small. -/
def Rise0 (lt : α → α → Bool) (f : Nat → α) (n j : Nat) : Prop :=
  j < n ∧ j % 2 = 0 ∧ (∀ i k, i < n → k < n → Edge i k → ¬ (k = j ∧ i = (j / 2 - 1) / 2 * 2) → lt (f k) (f i) = false) ∧ (2 ≤ j → ∀ k, k < n → Edge j k → lt (f k) (f ((j / 2 - 1) / 2 * 2)) = false)
/-- .. or too great. -/
def Rise1 (lt : α → α → Bool) (f : Nat → α) (n j : Nat) : Prop :=
  j < n ∧ (j % 2 = 1 ∨ j + 1 = n) ∧ (∀ i k, i < n → k < n → Edge i k → ¬ (2 ≤ j ∧ i = j ∧ k = (j / 2 - 1) / 2 * 2 + 1) → lt (f k) (f i) = false) ∧ (2 ≤ j → ∀ i, i < n → Edge i j → lt (f ((j / 2 - 1) / 2 * 2 + 1)) (f i) = false)

theorem Rise0.done {f : Nat → α} {n j : Nat} (h : Rise0 lt f n j) (hd : j < 2 ∨ lt (f j) (f ((j / 2 - 1) / 2 * 2)) = false) : StF lt f n := by
  obtain ⟨h1, h2, h3, h4⟩ := h
  intro i k hi hk he
  by_cases hx : k = j ∧ i = (j / 2 - 1) / 2 * 2
  · obtain ⟨rfl, rfl⟩ := hx
    rcases hd with hd | hd
    · unfold Edge at he; omega
    · exact hd
  · exact h3 i k hi hk he hx
theorem Rise1.done {f : Nat → α} {n j : Nat} (h : Rise1 lt f n j) (hd : j < 2 ∨ lt (f ((j / 2 - 1) / 2 * 2 + 1)) (f j) = false) : StF lt f n := by
  obtain ⟨h1, h2, h3, h4⟩ := h
  intro i k hi hk he
  by_cases hx : 2 ≤ j ∧ i = j ∧ k = (j / 2 - 1) / 2 * 2 + 1
  · obtain ⟨h2, rfl, rfl⟩ := hx
    rcases hd with hd | hd
    · omega
    · exact hd
  · exact h3 i k hi hk he hx

theorem Rise0.step (ho : IsOrd lt) {f : Nat → α} {n j up : Nat} (h : Rise0 lt f n j) (h2 : 2 ≤ j) (hup : up = (j / 2 - 1) / 2 * 2) (hl : lt (f j) (f up) = true) : Rise0 lt (sw f j up) n up := by
  obtain ⟨h1, he, h3, h4⟩ := h
  rw [← hup] at h3 h4
  have huj : up < j := by omega
  have hx := ho.asymm hl
  refine ⟨by omega, by omega, fun i k hi hk hE hn => ?_, fun hu k hk hE => ?_⟩
  · by_cases hij : i = j
    · subst hij
      have a1 : k ≠ i := by unfold Edge at hE; omega
      have a2 : k ≠ up := by unfold Edge at hE; omega
      simp only [sw, a1, a2, if_true, if_false]
      exact h4 h2 k hk hE
    · by_cases hiu : i = up
      · subst hiu
        by_cases hkj : k = j
        · subst hkj; simp only [sw, hij, if_true, if_false]; exact hx
        · have a1 : k ≠ i := by unfold Edge at hE; omega
          simp only [sw, hij, hkj, a1, if_true, if_false]
          exact ho.le_trans hx (h3 i k hi hk hE (by omega))
      · have a1 : k ≠ j := fun hc => by unfold Edge at hE; omega
        have a2 : k ≠ up := fun hc => by unfold Edge at hE; omega
        simp only [sw, hij, hiu, a1, a2, if_false]
        exact h3 i k hi hk hE (by omega)
  · obtain ⟨uu, huu⟩ : ∃ uu, uu = (up / 2 - 1) / 2 * 2 := ⟨_, rfl⟩
    rw [← huu]
    have b1 : lt (f up) (f uu) = false := h3 uu up (by omega) (by omega) (by unfold Edge; omega) (by omega)
    have c1 : uu ≠ j := by omega
    have c2 : uu ≠ up := by omega
    by_cases hkj : k = j
    · subst hkj; simp only [sw, c1, c2, if_true, if_false]; exact b1
    · have a1 : k ≠ up := by unfold Edge at hE; omega
      simp only [sw, c1, c2, hkj, a1, if_false]
      exact ho.le_trans b1 (h3 up k (by omega) hk hE (by omega))

theorem Rise1.step (ho : IsOrd lt) {f : Nat → α} {n j up : Nat} (h : Rise1 lt f n j) (h2 : 2 ≤ j) (hup : up = (j / 2 - 1) / 2 * 2 + 1) (hl : lt (f up) (f j) = true) : Rise1 lt (sw f j up) n up := by
  obtain ⟨h1, he, h3, h4⟩ := h
  rw [← hup] at h3 h4
  have huj : up < j := by omega
  have hx := ho.asymm hl
  refine ⟨by omega, by omega, fun i k hi hk hE hn => ?_, fun hu i hi hE => ?_⟩
  · by_cases hkj : k = j
    · subst hkj
      have a1 : i ≠ k := by unfold Edge at hE; omega
      have a2 : i ≠ up := by unfold Edge at hE; omega
      simp only [sw, a1, a2, if_true, if_false]
      exact h4 h2 i hi hE
    · by_cases hku : k = up
      · subst hku
        by_cases hij : i = j
        · subst hij; simp only [sw, hkj, if_true, if_false]; exact hx
        · have a1 : i ≠ k := by unfold Edge at hE; omega
          simp only [sw, hij, hkj, a1, if_true, if_false]
          exact ho.le_trans (h3 i k hi hk hE (by omega)) hx
      · have a1 : i ≠ j := fun hc => by unfold Edge at hE; omega
        have a2 : i ≠ up := fun hc => by unfold Edge at hE; omega
        simp only [sw, hkj, hku, a1, a2, if_false]
        exact h3 i k hi hk hE (by omega)
  · obtain ⟨uu, huu⟩ : ∃ uu, uu = (up / 2 - 1) / 2 * 2 + 1 := ⟨_, rfl⟩
    rw [← huu]
    have b1 : lt (f uu) (f up) = false := h3 up uu (by omega) (by omega) (by unfold Edge; omega) (by omega)
    have c1 : uu ≠ j := by omega
    have c2 : uu ≠ up := by omega
    by_cases hij : i = j
    · subst hij; simp only [sw, c1, c2, if_true, if_false]; exact b1
    · have a1 : i ≠ up := by unfold Edge at hE; omega
      simp only [sw, c1, c2, hij, a1, if_false]
      exact ho.le_trans (h3 i up hi (by omega) hE (by omega)) b1
end Go.Abs
