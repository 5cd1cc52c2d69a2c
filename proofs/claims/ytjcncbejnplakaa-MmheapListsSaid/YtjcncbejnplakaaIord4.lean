/-
  Plain law: what sinks from the last places of an interval heap.
-/
import Derived.Test.YtjcncbejnplakaaIord3
namespace Go.Abs
variable {α : Type} {lt : α → α → Bool}

/-- The place of a pair's second entry, or of its only one. -/
def secN (n k : Nat) : Nat := min (2 * k + 1) (n - 1)
/-- Right but for what stands last in the pair k and may be too small. -/
def Sink1 (lt : α → α → Bool) (f : Nat → α) (n k : Nat) : Prop :=
  2 * k < n ∧ (∀ i m, i < n → m < n → Edge i m → m ≠ secN n k → lt (f m) (f i) = false) ∧ (0 < k → lt (f (secN n k)) (f ((k - 1) / 2 * 2)) = false) ∧ (0 < k → ∀ i, i < n → Edge i (secN n k) → lt (f ((k - 1) / 2 * 2 + 1)) (f i) = false)

theorem Sink1.pair (ho : IsOrd lt) {f : Nat → α} {n k : Nat} (h : Sink1 lt f n k) (hk : 2 * k + 1 < n) (hl : lt (f (2 * k + 1)) (f (2 * k)) = true) : Sink1 lt (sw f (2 * k + 1) (2 * k)) n k ∧ Mate lt (sw f (2 * k + 1) (2 * k)) n k := by
  obtain ⟨h1, h2, h3, h4⟩ := h
  have hs : secN n k = 2 * k + 1 := by unfold secN; omega
  rw [hs] at h2 h3 h4
  have hx := ho.asymm hl
  have g1 : sw f (2 * k + 1) (2 * k) (2 * k + 1) = f (2 * k) := by simp only [sw, if_true]
  have g2 : sw f (2 * k + 1) (2 * k) (2 * k) = f (2 * k + 1) := by simp only [sw, show 2 * k ≠ 2 * k + 1 by omega, if_true, if_false]
  have g : ∀ m, m ≠ 2 * k → m ≠ 2 * k + 1 → sw f (2 * k + 1) (2 * k) m = f m := fun m a b => by simp only [sw, a, b, if_false]
  unfold Sink1
  rw [hs]
  refine ⟨⟨h1, fun i m hi hm hE hn => ?_, fun h0 => ?_, fun h0 i hi hE => ?_⟩, fun _ => by rw [g1, g2]; exact hx⟩
  · by_cases hm0 : m = 2 * k
    · subst hm0
      have a1 : i = (k - 1) / 2 * 2 ∧ 0 < k := by unfold Edge at hE; omega
      rw [g2, a1.1, g _ (by omega) (by omega)]
      exact h3 a1.2
    · rw [g m hm0 hn]
      by_cases hi1 : i = 2 * k + 1
      · subst hi1
        rw [g1]
        exact h2 _ m h1 hm (by unfold Edge at hE ⊢; omega) hn
      · by_cases hi0 : i = 2 * k
        · subst hi0
          rw [g2]
          exact ho.le_trans hx (h2 _ m h1 hm hE hn)
        · rw [g i hi0 hi1]
          exact h2 i m hi hm hE hn
  · rw [g1, g _ (by omega) (by omega)]
    exact h2 _ _ (by omega) h1 (by unfold Edge; omega) (by omega)
  · rw [g ((k - 1) / 2 * 2 + 1) (by omega) (by omega)]
    by_cases hi0 : i = 2 * k
    · subst hi0
      rw [g2]
      exact h2 _ _ hk (by omega) (by unfold Edge; omega) (by omega)
    · have : i ≠ 2 * k + 1 := by unfold Edge at hE; omega
      rw [g i hi0 this]
      exact h4 h0 i hi hE
theorem Sink1.done (ho : IsOrd lt) {f : Nat → α} {n k : Nat} (h : Sink1 lt f n k) (hm : Mate lt f n k) (hc : ∀ c, 2 * k + 1 ≤ c → c ≤ 2 * k + 2 → 2 * c < n → lt (f (secN n k)) (f (secN n c)) = false) : StF lt f n := by
  obtain ⟨h1, h2, h3, h4⟩ := h
  intro i m hi hmn hE
  by_cases hmp : m = secN n k
  · by_cases a1 : i = 2 * k
    · have a2 : m = 2 * k + 1 := by unfold secN at hmp; unfold Edge at hE; omega
      subst a1; subst a2; exact hm hmn
    · by_cases a2 : 0 < k ∧ i = (k - 1) / 2 * 2
      · rw [a2.2, hmp]; exact h3 a2.1
      · have a3 : 2 * k + 1 ≤ i / 2 ∧ i / 2 ≤ 2 * k + 2 := by unfold secN at hmp; unfold Edge at hE; omega
        have b1 := hc (i / 2) a3.1 a3.2 (by omega)
        rw [hmp]
        by_cases a4 : i = secN n (i / 2)
        · rw [← a4] at b1; exact b1
        · exact ho.le_trans (h2 i (secN n (i / 2)) hi (by unfold secN; omega) (by unfold secN at a4 ⊢; unfold Edge; omega) (by unfold secN; omega)) b1
  · exact h2 i m hi hmn hE hmp
theorem Sink1.step (ho : IsOrd lt) {f : Nat → α} {n k b : Nat} (h : Sink1 lt f n k) (hm : Mate lt f n k) (hb1 : 2 * k + 1 ≤ b) (hb2 : b ≤ 2 * k + 2) (hbn : 2 * b < n)
    (hc : ∀ c, 2 * k + 1 ≤ c → c ≤ 2 * k + 2 → 2 * c < n → lt (f (secN n b)) (f (secN n c)) = false) (hl : lt (f (secN n k)) (f (secN n b)) = true) : Sink1 lt (sw f (secN n b) (secN n k)) n b := by
  obtain ⟨h1, h2, h3, h4⟩ := h
  have hx := ho.asymm hl
  have hs : secN n k = 2 * k + 1 := by unfold secN; omega
  obtain ⟨q, hq⟩ : ∃ q, q = secN n b := ⟨_, rfl⟩
  have hq2 : q = 2 * b ∧ n = 2 * b + 1 ∨ q = 2 * b + 1 ∧ 2 * b + 1 < n := by unfold secN at hq; omega
  unfold Sink1
  rw [hs] at h2 h3 h4 hl hx ⊢
  rw [← hq] at hc hl hx ⊢
  have g1 : sw f q (2 * k + 1) q = f (2 * k + 1) := by simp only [sw, if_true]
  have g2 : sw f q (2 * k + 1) (2 * k + 1) = f q := by simp only [sw, show 2 * k + 1 ≠ q by omega, if_true, if_false]
  have g : ∀ m, m ≠ 2 * k + 1 → m ≠ q → sw f q (2 * k + 1) m = f m := fun m a b => by simp only [sw, a, b, if_false]
  have hkm := hm (by omega)
  refine ⟨hbn, fun i m hi hmn hE hn => ?_, fun h0 => ?_, fun h0 i hi hE => ?_⟩
  · by_cases hmk : m = 2 * k + 1
    · subst hmk
      rw [g2]
      have a0 : i ≠ 2 * k + 1 := by unfold Edge at hE; omega
      by_cases a5 : i = q
      · subst a5; rw [g1]; exact hx
      · rw [g i a0 a5]
        by_cases a1 : i = 2 * k
        · subst a1; exact ho.le_trans hkm hx
        · by_cases a2 : 0 < k ∧ i = (k - 1) / 2 * 2
          · rw [a2.2]; exact ho.le_trans (h3 a2.1) hx
          · have a3 : 2 * k + 1 ≤ i / 2 ∧ i / 2 ≤ 2 * k + 2 := by unfold Edge at hE; omega
            have b1 := hc (i / 2) a3.1 a3.2 (by omega)
            by_cases a4 : i = secN n (i / 2)
            · rw [← a4] at b1; exact b1
            · exact ho.le_trans (h2 i (secN n (i / 2)) hi (by unfold secN; omega) (by unfold secN at a4 ⊢; unfold Edge; omega) (by unfold secN; omega)) b1
    · rw [g m hmk hn]
      by_cases hik : i = 2 * k + 1
      · subst hik
        rw [g2]
        have a1 : 0 < k ∧ m = (k - 1) / 2 * 2 + 1 := by unfold Edge at hE; omega
        rw [a1.2]
        exact h4 a1.1 _ (by omega) (by unfold Edge; omega)
      · by_cases hib : i = q
        · exfalso; unfold Edge at hE; omega
        · rw [g i hik hib]
          exact h2 i m hi hmn hE hmk
  · rw [g1, show (b - 1) / 2 * 2 = 2 * k by omega, g _ (by omega) (by omega)]
    exact hkm
  · rw [show (b - 1) / 2 * 2 + 1 = 2 * k + 1 by omega, g2]
    have a0 : i ≠ q := by unfold Edge at hE; omega
    have a1 : i ≠ 2 * k + 1 := by unfold Edge at hE; omega
    rw [g i a1 a0]
    exact h2 i q hi (by omega) hE (by omega)
end Go.Abs
