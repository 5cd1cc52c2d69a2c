/-
  Plain law: what sinks from the first places of an interval heap.
-/
import Derived.Test.YtjcncbejnplakaaIord
namespace Go.Abs
variable {α : Type} {lt : α → α → Bool}

/-- Right but for what stands first in the pair k and may be too great. -/
def Sink0 (lt : α → α → Bool) (f : Nat → α) (n k : Nat) : Prop :=
  2 * k < n ∧ (∀ i m, i < n → m < n → Edge i m → i ≠ 2 * k → lt (f m) (f i) = false) ∧ (0 < k → lt (f ((k - 1) / 2 * 2 + 1)) (f (2 * k)) = false) ∧ (0 < k → ∀ m, m < n → Edge (2 * k) m → lt (f m) (f ((k - 1) / 2 * 2)) = false)
/-- .. and the pair itself stands right. -/
def Mate (lt : α → α → Bool) (f : Nat → α) (n k : Nat) : Prop := 2 * k + 1 < n → lt (f (2 * k + 1)) (f (2 * k)) = false

theorem Sink0.pair (ho : IsOrd lt) {f : Nat → α} {n k : Nat} (h : Sink0 lt f n k) (hk : 2 * k + 1 < n) (hl : lt (f (2 * k + 1)) (f (2 * k)) = true) : Sink0 lt (sw f (2 * k + 1) (2 * k)) n k ∧ Mate lt (sw f (2 * k + 1) (2 * k)) n k := by
  obtain ⟨h1, h2, h3, h4⟩ := h
  have hx := ho.asymm hl
  have g1 : sw f (2 * k + 1) (2 * k) (2 * k + 1) = f (2 * k) := by simp only [sw, if_true]
  have g2 : sw f (2 * k + 1) (2 * k) (2 * k) = f (2 * k + 1) := by simp only [sw, show 2 * k ≠ 2 * k + 1 by omega, if_true, if_false]
  have g : ∀ m, m ≠ 2 * k → m ≠ 2 * k + 1 → sw f (2 * k + 1) (2 * k) m = f m := fun m a b => by simp only [sw, a, b, if_false]
  refine ⟨⟨h1, fun i m hi hm hE hn => ?_, fun h0 => ?_, fun h0 m hm hE => ?_⟩, fun _ => by rw [g1, g2]; exact hx⟩
  · by_cases him : i = 2 * k + 1
    · subst him
      have a1 : m = (k - 1) / 2 * 2 + 1 ∧ 0 < k := by unfold Edge at hE; omega
      rw [g1, a1.1, g _ (by omega) (by omega)]
      exact h3 a1.2
    · rw [g i hn him]
      by_cases hm0 : m = 2 * k
      · subst hm0
        rw [g2]
        exact h2 i _ hi hk (by unfold Edge at hE ⊢; omega) hn
      · by_cases hm1 : m = 2 * k + 1
        · subst hm1
          rw [g1]
          exact ho.le_trans (h2 i _ hi hm hE hn) hx
        · rw [g m hm0 hm1]
          exact h2 i m hi hm hE hn
  · rw [g2, g _ (by omega) (by omega)]
    exact h2 _ _ hk (by omega) (by unfold Edge; omega) (by omega)
  · rw [g ((k - 1) / 2 * 2) (by omega) (by omega)]
    by_cases hm1 : m = 2 * k + 1
    · subst hm1
      rw [g1]
      exact h2 _ _ (by omega) h1 (by unfold Edge; omega) (by omega)
    · have : m ≠ 2 * k := by unfold Edge at hE; omega
      rw [g m this hm1]
      exact h4 h0 m hm hE
theorem Sink0.done (ho : IsOrd lt) {f : Nat → α} {n k : Nat} (h : Sink0 lt f n k) (hm : Mate lt f n k) (hc : ∀ c, 2 * k + 1 ≤ c → c ≤ 2 * k + 2 → 2 * c < n → lt (f (2 * c)) (f (2 * k)) = false) : StF lt f n := by
  obtain ⟨h1, h2, h3, h4⟩ := h
  intro i m hi hmn hE
  by_cases hik : i = 2 * k
  · subst hik
    by_cases a1 : m = 2 * k + 1
    · subst a1; exact hm hmn
    · by_cases a2 : 0 < k ∧ m = (k - 1) / 2 * 2 + 1
      · rw [a2.2]; exact h3 a2.1
      · have a3 : 2 * k + 1 ≤ m / 2 ∧ m / 2 ≤ 2 * k + 2 := by unfold Edge at hE; omega
        have b1 := hc (m / 2) a3.1 a3.2 (by omega)
        by_cases a4 : m = 2 * (m / 2)
        · rw [a4]; exact b1
        · exact ho.le_trans b1 (h2 (2 * (m / 2)) m (by omega) hmn (by unfold Edge; omega) (by omega))
  · exact h2 i m hi hmn hE hik

theorem Sink0.step (ho : IsOrd lt) {f : Nat → α} {n k b : Nat} (h : Sink0 lt f n k) (hm : Mate lt f n k) (hb1 : 2 * k + 1 ≤ b) (hb2 : b ≤ 2 * k + 2) (hbn : 2 * b < n)
    (hc : ∀ c, 2 * k + 1 ≤ c → c ≤ 2 * k + 2 → 2 * c < n → lt (f (2 * c)) (f (2 * b)) = false) (hl : lt (f (2 * b)) (f (2 * k)) = true) : Sink0 lt (sw f (2 * b) (2 * k)) n b := by
  obtain ⟨h1, h2, h3, h4⟩ := h
  have hx := ho.asymm hl
  have g1 : sw f (2 * b) (2 * k) (2 * b) = f (2 * k) := by simp only [sw, if_true]
  have g2 : sw f (2 * b) (2 * k) (2 * k) = f (2 * b) := by simp only [sw, show 2 * k ≠ 2 * b by omega, if_true, if_false]
  have g : ∀ m, m ≠ 2 * k → m ≠ 2 * b → sw f (2 * b) (2 * k) m = f m := fun m a b => by simp only [sw, a, b, if_false]
  have hmate : 2 * k + 1 < n := by omega
  have hkm := hm hmate
  refine ⟨hbn, fun i m hi hmn hE hn => ?_, fun h0 => ?_, fun h0 m hmn hE => ?_⟩
  · by_cases hik : i = 2 * k
    · subst hik
      rw [g2]
      have a0 : m ≠ 2 * k := by unfold Edge at hE; omega
      by_cases a5 : m = 2 * b
      · subst a5; rw [g1]; exact hx
      · rw [g m a0 a5]
        by_cases a1 : m = 2 * k + 1
        · subst a1; exact ho.le_trans hx hkm
        · by_cases a2 : 0 < k ∧ m = (k - 1) / 2 * 2 + 1
          · rw [a2.2]; exact ho.le_trans hx (h3 a2.1)
          · have a3 : 2 * k + 1 ≤ m / 2 ∧ m / 2 ≤ 2 * k + 2 := by unfold Edge at hE; omega
            have b1 := hc (m / 2) a3.1 a3.2 (by omega)
            by_cases a4 : m = 2 * (m / 2)
            · rw [a4]; exact b1
            · exact ho.le_trans b1 (h2 (2 * (m / 2)) m (by omega) hmn (by unfold Edge; omega) (by omega))
    · rw [g i hik hn]
      by_cases hmk : m = 2 * k
      · subst hmk
        rw [g2]
        have a1 : 0 < k ∧ i = (k - 1) / 2 * 2 := by unfold Edge at hE; omega
        rw [a1.2]
        exact h4 a1.1 _ hbn (by unfold Edge; omega)
      · by_cases hmb : m = 2 * b
        · exfalso; unfold Edge at hE; omega
        · rw [g m hmk hmb]
          exact h2 i m hi hmn hE hik
  · rw [g1, show (b - 1) / 2 * 2 + 1 = 2 * k + 1 by omega, g _ (by omega) (by omega)]
    exact hkm
  · rw [show (b - 1) / 2 * 2 = 2 * k by omega, g2]
    have a0 : m ≠ 2 * b := by unfold Edge at hE; omega
    have a1 : m ≠ 2 * k := by unfold Edge at hE; omega
    rw [g m a1 a0]
    exact h2 (2 * b) m hbn hmn hE (by omega)
end Go.Abs
