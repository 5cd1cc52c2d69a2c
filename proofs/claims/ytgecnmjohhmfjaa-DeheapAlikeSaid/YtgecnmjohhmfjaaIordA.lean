/-
  Plain law: an interval heap stands right when something has risen.
-/
import Derived.Test.YtgecnmjohhmfjaaSorted
namespace Go.Abs
variable {α : Type} {lt : α → α → Bool}
def Edge (i k : Nat) : Prop := (i % 2 = 0 ∧ k = i + 1) ∨ (2 ≤ k ∧ i = (k / 2 - 1) / 2 * 2) ∨ (2 ≤ i ∧ k = (i / 2 - 1) / 2 * 2 + 1)
def StF (lt : α → α → Bool) (f : Nat → α) (n : Nat) : Prop := ∀ i k, i < n → k < n → Edge i k → lt (f k) (f i) = false
def sw (f : Nat → α) (i k m : Nat) : α := if m = i then f k else if m = k then f i else f m
def Rise0 (lt : α → α → Bool) (f : Nat → α) (n j : Nat) : Prop :=
  j < n ∧ j % 2 = 0 ∧ (∀ i k, i < n → k < n → Edge i k → ¬ (k = j ∧ i = (j / 2 - 1) / 2 * 2) → lt (f k) (f i) = false) ∧ (2 ≤ j → ∀ k, k < n → Edge j k → lt (f k) (f ((j / 2 - 1) / 2 * 2)) = false)
def Rise1 (lt : α → α → Bool) (f : Nat → α) (n j : Nat) : Prop :=
  j < n ∧ (j % 2 = 1 ∨ j + 1 = n) ∧ (∀ i k, i < n → k < n → Edge i k → ¬ (2 ≤ j ∧ i = j ∧ k = (j / 2 - 1) / 2 * 2 + 1) → lt (f k) (f i) = false) ∧ (2 ≤ j → ∀ i, i < n → Edge i j → lt (f ((j / 2 - 1) / 2 * 2 + 1)) (f i) = false)
theorem Rise0.done {f : Nat → α} {n j : Nat} (h : Rise0 lt f n j) (hd : j < 2 ∨ lt (f j) (f ((j / 2 - 1) / 2 * 2)) = false) : StF lt f n := by
  obtain ⟨h1, h2, h3, h4⟩ := h
  intro i k hi hk he
  by_cases hx : k = j ∧ i = (j / 2 - 1) / 2 * 2
  · obtain ⟨rfl, rfl⟩ := hx
    rcases hd with hd | hd
    · unfold Edge at he; omega
    · exact hd
  · exact h3 i k hi hk he hx
theorem Rise1.done {f : Nat → α} {n j : Nat} (h : Rise1 lt f n j) (hd : j < 2 ∨ lt (f ((j / 2 - 1) / 2 * 2 + 1)) (f j) = false) : StF lt f n := by
  obtain ⟨h1, h2, h3, h4⟩ := h
  intro i k hi hk he
  by_cases hx : 2 ≤ j ∧ i = j ∧ k = (j / 2 - 1) / 2 * 2 + 1
  · obtain ⟨h2, rfl, rfl⟩ := hx
    rcases hd with hd | hd
    · omega
    · exact hd
  · exact h3 i k hi hk he hx
theorem Rise0.step (ho : IsOrd lt) {f : Nat → α} {n j up : Nat} (h : Rise0 lt f n j) (h2 : 2 ≤ j) (hup : up = (j / 2 - 1) / 2 * 2) (hl : lt (f j) (f up) = true) : Rise0 lt (sw f j up) n up := by
  obtain ⟨h1, he, h3, h4⟩ := h
  rw [← hup] at h3 h4
  have huj : up < j := by omega
  have hx := ho.asymm hl
  refine ⟨by omega, by omega, fun i k hi hk hE hn => ?_, fun hu k hk hE => ?_⟩
  · by_cases hij : i = j
    · subst hij
      have a1 : k ≠ i := by unfold Edge at hE; omega
      have a2 : k ≠ up := by unfold Edge at hE; omega
      simp only [sw, a1, a2, if_true, if_false]
      exact h4 h2 k hk hE
    · by_cases hiu : i = up
      · subst hiu
        by_cases hkj : k = j
        · subst hkj; simp only [sw, hij, if_true, if_false]; exact hx
        · have a1 : k ≠ i := by unfold Edge at hE; omega
          simp only [sw, hij, hkj, a1, if_true, if_false]
          exact ho.le_trans hx (h3 i k hi hk hE (by omega))
      · have a1 : k ≠ j := fun hc => by unfold Edge at hE; omega
        have a2 : k ≠ up := fun hc => by unfold Edge at hE; omega
        simp only [sw, hij, hiu, a1, a2, if_false]
        exact h3 i k hi hk hE (by omega)
  · obtain ⟨uu, huu⟩ : ∃ uu, uu = (up / 2 - 1) / 2 * 2 := ⟨_, rfl⟩
    rw [← huu]
    have b1 : lt (f up) (f uu) = false := h3 uu up (by omega) (by omega) (by unfold Edge; omega) (by omega)
    have c1 : uu ≠ j := by omega
    have c2 : uu ≠ up := by omega
    by_cases hkj : k = j
    · subst hkj; simp only [sw, c1, c2, if_true, if_false]; exact b1
    · have a1 : k ≠ up := by unfold Edge at hE; omega
      simp only [sw, c1, c2, hkj, a1, if_false]
      exact ho.le_trans b1 (h3 up k (by omega) hk hE (by omega))
theorem Rise1.step (ho : IsOrd lt) {f : Nat → α} {n j up : Nat} (h : Rise1 lt f n j) (h2 : 2 ≤ j) (hup : up = (j / 2 - 1) / 2 * 2 + 1) (hl : lt (f up) (f j) = true) : Rise1 lt (sw f j up) n up := by
  obtain ⟨h1, he, h3, h4⟩ := h
  rw [← hup] at h3 h4
  have huj : up < j := by omega
  have hx := ho.asymm hl
  refine ⟨by omega, by omega, fun i k hi hk hE hn => ?_, fun hu i hi hE => ?_⟩
  · by_cases hkj : k = j
    · subst hkj
      have a1 : i ≠ k := by unfold Edge at hE; omega
      have a2 : i ≠ up := by unfold Edge at hE; omega
      simp only [sw, a1, a2, if_true, if_false]
      exact h4 h2 i hi hE
    · by_cases hku : k = up
      · subst hku
        by_cases hij : i = j
        · subst hij; simp only [sw, hkj, if_true, if_false]; exact hx
        · have a1 : i ≠ k := by unfold Edge at hE; omega
          simp only [sw, hij, hkj, a1, if_true, if_false]
          exact ho.le_trans (h3 i k hi hk hE (by omega)) hx
      · have a1 : i ≠ j := fun hc => by unfold Edge at hE; omega
        have a2 : i ≠ up := fun hc => by unfold Edge at hE; omega
        simp only [sw, hkj, hku, a1, a2, if_false]
        exact h3 i k hi hk hE (by omega)
  · obtain ⟨uu, huu⟩ : ∃ uu, uu = (up / 2 - 1) / 2 * 2 + 1 := ⟨_, rfl⟩
    rw [← huu]
    have b1 : lt (f uu) (f up) = false := h3 up uu (by omega) (by omega) (by unfold Edge; omega) (by omega)
    have c1 : uu ≠ j := by omega
    have c2 : uu ≠ up := by omega
    by_cases hij : i = j
    · subst hij; simp only [sw, c1, c2, if_true, if_false]; exact b1
    · have a1 : i ≠ up := by unfold Edge at hE; omega
      simp only [sw, c1, c2, hij, a1, if_false]
      exact ho.le_trans (h3 i up hi (by omega) hE (by omega)) b1
end Go.Abs
/-
  Plain law: an interval heap with one more, which is to rise.
-/
namespace Go.Abs
variable {α : Type} {lt : α → α → Bool}
theorem push_lo {f : Nat → α} {n : Nat} (h : StF lt f n) (he : n % 2 = 0) (hh : n < 2 ∨ lt (f ((n / 2 - 1) / 2 * 2 + 1)) (f n) = false) : Rise0 lt f (n + 1) n := by
  refine ⟨by omega, he, fun i k hi hk hE hn => ?_, fun h2 k hk hE => ?_⟩
  · by_cases hin : i = n
    · subst hin
      have a1 : 2 ≤ i ∧ k = (i / 2 - 1) / 2 * 2 + 1 := by unfold Edge at hE; omega
      rw [a1.2]
      rcases hh with hh | hh
      · omega
      · exact hh
    · by_cases hkn : k = n
      · exfalso; unfold Edge at hE; omega
      · exact h i k (by omega) (by omega) hE
  · have a1 : k = (n / 2 - 1) / 2 * 2 + 1 := by unfold Edge at hE; omega
    rw [a1]
    exact h _ _ (by omega) (by omega) (by unfold Edge; omega)
theorem push_hi (ho : IsOrd lt) {f : Nat → α} {n : Nat} (h : StF lt f n) (he : n % 2 = 0) (h2 : 2 ≤ n) (hh : lt (f ((n / 2 - 1) / 2 * 2 + 1)) (f n) = true) : Rise1 lt f (n + 1) n := by
  have hp : lt (f ((n / 2 - 1) / 2 * 2 + 1)) (f ((n / 2 - 1) / 2 * 2)) = false := h _ _ (by omega) (by omega) (by unfold Edge; omega)
  refine ⟨by omega, .inr rfl, fun i k hi hk hE hn => ?_, fun _ i hi hE => ?_⟩
  · by_cases hin : i = n
    · exfalso; unfold Edge at hE; omega
    · by_cases hkn : k = n
      · have a1 : i = (n / 2 - 1) / 2 * 2 := by unfold Edge at hE; omega
        rw [a1, hkn]
        exact ho.le_trans hp (ho.asymm hh)
      · exact h i k (by omega) (by omega) hE
  · have a1 : i = (n / 2 - 1) / 2 * 2 := by unfold Edge at hE; omega
    rw [a1]; exact hp
theorem push_mate (ho : IsOrd lt) {f : Nat → α} {n : Nat} (h : StF lt f n) (he : n % 2 = 1) (hh : lt (f n) (f (n - 1)) = false) : Rise1 lt f (n + 1) n := by
  refine ⟨by omega, .inl he, fun i k hi hk hE hn => ?_, fun h2 i hi hE => ?_⟩
  · by_cases hin : i = n
    · exfalso; unfold Edge at hE; omega
    · by_cases hkn : k = n
      · subst hkn
        by_cases hi1 : i = k - 1
        · rw [hi1]; exact hh
        · exact ho.le_trans (h i (k - 1) (by omega) (by omega) (by unfold Edge at hE ⊢; omega)) hh
      · exact h i k (by omega) (by omega) hE
  · by_cases hi1 : i = n - 1
    · exact h _ _ (by omega) (by omega) (by unfold Edge; omega)
    · have a1 : i = (n / 2 - 1) / 2 * 2 := by unfold Edge at hE; omega
      rw [a1]
      exact h _ _ (by omega) (by omega) (by unfold Edge; omega)
theorem push_turn (ho : IsOrd lt) {f : Nat → α} {n : Nat} (h : StF lt f n) (he : n % 2 = 1) (hh : lt (f n) (f (n - 1)) = true) : Rise0 lt (sw f n (n - 1)) (n + 1) (n - 1) := by
  have hx := ho.asymm hh
  have hne : n - 1 ≠ n := by omega
  have g : ∀ m, m < n - 1 → sw f n (n - 1) m = f m := fun m hm => by simp only [sw, show m ≠ n by omega, show m ≠ n - 1 by omega, if_false]
  have g1 : sw f n (n - 1) n = f (n - 1) := by simp only [sw, if_true]
  have g2 : sw f n (n - 1) (n - 1) = f n := by simp only [sw, hne, if_true, if_false]
  refine ⟨by omega, by omega, fun i k hi hk hE hn => ?_, fun h2 k hk hE => ?_⟩
  · by_cases hin : i = n
    · subst hin
      have a1 : k < i - 1 := by unfold Edge at hE; omega
      rw [g k a1, g1]
      exact h _ _ (by omega) (by omega) (by unfold Edge at hE ⊢; omega)
    · by_cases hin1 : i = n - 1
      · subst hin1
        by_cases hkn : k = n
        · rw [hkn, g1, g2]; exact hx
        · have a1 : k < n - 1 := by unfold Edge at hE; omega
          rw [g k a1, g2]
          exact ho.le_trans hx (h (n - 1) k (by omega) (by omega) hE)
      · rw [g i (by omega)]
        by_cases hkn : k = n
        · rw [hkn, g1]
          exact h _ _ (by omega) (by omega) (by unfold Edge at hE ⊢; omega)
        · have a1 : k ≠ n - 1 := fun hc => by unfold Edge at hE; omega
          rw [g k (by omega)]
          exact h _ _ (by omega) (by omega) hE
  · rw [g (((n - 1) / 2 - 1) / 2 * 2) (by omega)]
    by_cases hkn : k = n
    · rw [hkn, g1]
      exact h _ _ (by omega) (by omega) (by unfold Edge; omega)
    · have a1 : k = ((n - 1) / 2 - 1) / 2 * 2 + 1 := by unfold Edge at hE; omega
      rw [a1, g _ (by omega)]
      exact h _ _ (by omega) (by omega) (by unfold Edge; omega)
end Go.Abs
/-
  Plain law: what sinks from the first places of an interval heap.
-/
namespace Go.Abs
variable {α : Type} {lt : α → α → Bool}
def Sink0 (lt : α → α → Bool) (f : Nat → α) (n k : Nat) : Prop :=
  2 * k < n ∧ (∀ i m, i < n → m < n → Edge i m → i ≠ 2 * k → lt (f m) (f i) = false) ∧ (0 < k → lt (f ((k - 1) / 2 * 2 + 1)) (f (2 * k)) = false) ∧ (0 < k → ∀ m, m < n → Edge (2 * k) m → lt (f m) (f ((k - 1) / 2 * 2)) = false)
def Mate (lt : α → α → Bool) (f : Nat → α) (n k : Nat) : Prop := 2 * k + 1 < n → lt (f (2 * k + 1)) (f (2 * k)) = false
theorem Sink0.pair (ho : IsOrd lt) {f : Nat → α} {n k : Nat} (h : Sink0 lt f n k) (hk : 2 * k + 1 < n) (hl : lt (f (2 * k + 1)) (f (2 * k)) = true) : Sink0 lt (sw f (2 * k + 1) (2 * k)) n k ∧ Mate lt (sw f (2 * k + 1) (2 * k)) n k := by
  obtain ⟨h1, h2, h3, h4⟩ := h
  have hx := ho.asymm hl
  have g1 : sw f (2 * k + 1) (2 * k) (2 * k + 1) = f (2 * k) := by simp only [sw, if_true]
  have g2 : sw f (2 * k + 1) (2 * k) (2 * k) = f (2 * k + 1) := by simp only [sw, show 2 * k ≠ 2 * k + 1 by omega, if_true, if_false]
  have g : ∀ m, m ≠ 2 * k → m ≠ 2 * k + 1 → sw f (2 * k + 1) (2 * k) m = f m := fun m a b => by simp only [sw, a, b, if_false]
  refine ⟨⟨h1, fun i m hi hm hE hn => ?_, fun h0 => ?_, fun h0 m hm hE => ?_⟩, fun _ => by rw [g1, g2]; exact hx⟩
  · by_cases him : i = 2 * k + 1
    · subst him
      have a1 : m = (k - 1) / 2 * 2 + 1 ∧ 0 < k := by unfold Edge at hE; omega
      rw [g1, a1.1, g _ (by omega) (by omega)]
      exact h3 a1.2
    · rw [g i hn him]
      by_cases hm0 : m = 2 * k
      · subst hm0
        rw [g2]
        exact h2 i _ hi hk (by unfold Edge at hE ⊢; omega) hn
      · by_cases hm1 : m = 2 * k + 1
        · subst hm1
          rw [g1]
          exact ho.le_trans (h2 i _ hi hm hE hn) hx
        · rw [g m hm0 hm1]
          exact h2 i m hi hm hE hn
  · rw [g2, g _ (by omega) (by omega)]
    exact h2 _ _ hk (by omega) (by unfold Edge; omega) (by omega)
  · rw [g ((k - 1) / 2 * 2) (by omega) (by omega)]
    by_cases hm1 : m = 2 * k + 1
    · subst hm1
      rw [g1]
      exact h2 _ _ (by omega) h1 (by unfold Edge; omega) (by omega)
    · have : m ≠ 2 * k := by unfold Edge at hE; omega
      rw [g m this hm1]
      exact h4 h0 m hm hE
theorem Sink0.done (ho : IsOrd lt) {f : Nat → α} {n k : Nat} (h : Sink0 lt f n k) (hm : Mate lt f n k) (hc : ∀ c, 2 * k + 1 ≤ c → c ≤ 2 * k + 2 → 2 * c < n → lt (f (2 * c)) (f (2 * k)) = false) : StF lt f n := by
  obtain ⟨h1, h2, h3, h4⟩ := h
  intro i m hi hmn hE
  by_cases hik : i = 2 * k
  · subst hik
    by_cases a1 : m = 2 * k + 1
    · subst a1; exact hm hmn
    · by_cases a2 : 0 < k ∧ m = (k - 1) / 2 * 2 + 1
      · rw [a2.2]; exact h3 a2.1
      · have a3 : 2 * k + 1 ≤ m / 2 ∧ m / 2 ≤ 2 * k + 2 := by unfold Edge at hE; omega
        have b1 := hc (m / 2) a3.1 a3.2 (by omega)
        by_cases a4 : m = 2 * (m / 2)
        · rw [a4]; exact b1
        · exact ho.le_trans b1 (h2 (2 * (m / 2)) m (by omega) hmn (by unfold Edge; omega) (by omega))
  · exact h2 i m hi hmn hE hik
theorem Sink0.step (ho : IsOrd lt) {f : Nat → α} {n k b : Nat} (h : Sink0 lt f n k) (hm : Mate lt f n k) (hb1 : 2 * k + 1 ≤ b) (hb2 : b ≤ 2 * k + 2) (hbn : 2 * b < n)
    (hc : ∀ c, 2 * k + 1 ≤ c → c ≤ 2 * k + 2 → 2 * c < n → lt (f (2 * c)) (f (2 * b)) = false) (hl : lt (f (2 * b)) (f (2 * k)) = true) : Sink0 lt (sw f (2 * b) (2 * k)) n b := by
  obtain ⟨h1, h2, h3, h4⟩ := h
  have hx := ho.asymm hl
  have g1 : sw f (2 * b) (2 * k) (2 * b) = f (2 * k) := by simp only [sw, if_true]
  have g2 : sw f (2 * b) (2 * k) (2 * k) = f (2 * b) := by simp only [sw, show 2 * k ≠ 2 * b by omega, if_true, if_false]
  have g : ∀ m, m ≠ 2 * k → m ≠ 2 * b → sw f (2 * b) (2 * k) m = f m := fun m a b => by simp only [sw, a, b, if_false]
  have hmate : 2 * k + 1 < n := by omega
  have hkm := hm hmate
  refine ⟨hbn, fun i m hi hmn hE hn => ?_, fun h0 => ?_, fun h0 m hmn hE => ?_⟩
  · by_cases hik : i = 2 * k
    · subst hik
      rw [g2]
      have a0 : m ≠ 2 * k := by unfold Edge at hE; omega
      by_cases a5 : m = 2 * b
      · subst a5; rw [g1]; exact hx
      · rw [g m a0 a5]
        by_cases a1 : m = 2 * k + 1
        · subst a1; exact ho.le_trans hx hkm
        · by_cases a2 : 0 < k ∧ m = (k - 1) / 2 * 2 + 1
          · rw [a2.2]; exact ho.le_trans hx (h3 a2.1)
          · have a3 : 2 * k + 1 ≤ m / 2 ∧ m / 2 ≤ 2 * k + 2 := by unfold Edge at hE; omega
            have b1 := hc (m / 2) a3.1 a3.2 (by omega)
            by_cases a4 : m = 2 * (m / 2)
            · rw [a4]; exact b1
            · exact ho.le_trans b1 (h2 (2 * (m / 2)) m (by omega) hmn (by unfold Edge; omega) (by omega))
    · rw [g i hik hn]
      by_cases hmk : m = 2 * k
      · subst hmk
        rw [g2]
        have a1 : 0 < k ∧ i = (k - 1) / 2 * 2 := by unfold Edge at hE; omega
        rw [a1.2]
        exact h4 a1.1 _ hbn (by unfold Edge; omega)
      · by_cases hmb : m = 2 * b
        · exfalso; unfold Edge at hE; omega
        · rw [g m hmk hmb]
          exact h2 i m hi hmn hE hik
  · rw [g1, show (b - 1) / 2 * 2 + 1 = 2 * k + 1 by omega, g _ (by omega) (by omega)]
    exact hkm
  · rw [show (b - 1) / 2 * 2 = 2 * k by omega, g2]
    have a0 : m ≠ 2 * b := by unfold Edge at hE; omega
    have a1 : m ≠ 2 * k := by unfold Edge at hE; omega
    rw [g m a1 a0]
    exact h2 (2 * b) m hbn hmn hE (by omega)
end Go.Abs
/-
  Plain law: what sinks from the last places of an interval heap.
-/
namespace Go.Abs
variable {α : Type} {lt : α → α → Bool}
def secN (n k : Nat) : Nat := min (2 * k + 1) (n - 1)
def Sink1 (lt : α → α → Bool) (f : Nat → α) (n k : Nat) : Prop :=
  2 * k < n ∧ (∀ i m, i < n → m < n → Edge i m → m ≠ secN n k → lt (f m) (f i) = false) ∧ (0 < k → lt (f (secN n k)) (f ((k - 1) / 2 * 2)) = false) ∧ (0 < k → ∀ i, i < n → Edge i (secN n k) → lt (f ((k - 1) / 2 * 2 + 1)) (f i) = false)
theorem Sink1.pair (ho : IsOrd lt) {f : Nat → α} {n k : Nat} (h : Sink1 lt f n k) (hk : 2 * k + 1 < n) (hl : lt (f (2 * k + 1)) (f (2 * k)) = true) : Sink1 lt (sw f (2 * k + 1) (2 * k)) n k ∧ Mate lt (sw f (2 * k + 1) (2 * k)) n k := by
  obtain ⟨h1, h2, h3, h4⟩ := h
  have hs : secN n k = 2 * k + 1 := by unfold secN; omega
  rw [hs] at h2 h3 h4
  have hx := ho.asymm hl
  have g1 : sw f (2 * k + 1) (2 * k) (2 * k + 1) = f (2 * k) := by simp only [sw, if_true]
  have g2 : sw f (2 * k + 1) (2 * k) (2 * k) = f (2 * k + 1) := by simp only [sw, show 2 * k ≠ 2 * k + 1 by omega, if_true, if_false]
  have g : ∀ m, m ≠ 2 * k → m ≠ 2 * k + 1 → sw f (2 * k + 1) (2 * k) m = f m := fun m a b => by simp only [sw, a, b, if_false]
  unfold Sink1
  rw [hs]
  refine ⟨⟨h1, fun i m hi hm hE hn => ?_, fun h0 => ?_, fun h0 i hi hE => ?_⟩, fun _ => by rw [g1, g2]; exact hx⟩
  · by_cases hm0 : m = 2 * k
    · subst hm0
      have a1 : i = (k - 1) / 2 * 2 ∧ 0 < k := by unfold Edge at hE; omega
      rw [g2, a1.1, g _ (by omega) (by omega)]
      exact h3 a1.2
    · rw [g m hm0 hn]
      by_cases hi1 : i = 2 * k + 1
      · subst hi1
        rw [g1]
        exact h2 _ m h1 hm (by unfold Edge at hE ⊢; omega) hn
      · by_cases hi0 : i = 2 * k
        · subst hi0
          rw [g2]
          exact ho.le_trans hx (h2 _ m h1 hm hE hn)
        · rw [g i hi0 hi1]
          exact h2 i m hi hm hE hn
  · rw [g1, g _ (by omega) (by omega)]
    exact h2 _ _ (by omega) h1 (by unfold Edge; omega) (by omega)
  · rw [g ((k - 1) / 2 * 2 + 1) (by omega) (by omega)]
    by_cases hi0 : i = 2 * k
    · subst hi0
      rw [g2]
      exact h2 _ _ hk (by omega) (by unfold Edge; omega) (by omega)
    · have : i ≠ 2 * k + 1 := by unfold Edge at hE; omega
      rw [g i hi0 this]
      exact h4 h0 i hi hE
theorem Sink1.done (ho : IsOrd lt) {f : Nat → α} {n k : Nat} (h : Sink1 lt f n k) (hm : Mate lt f n k) (hc : ∀ c, 2 * k + 1 ≤ c → c ≤ 2 * k + 2 → 2 * c < n → lt (f (secN n k)) (f (secN n c)) = false) : StF lt f n := by
  obtain ⟨h1, h2, h3, h4⟩ := h
  intro i m hi hmn hE
  by_cases hmp : m = secN n k
  · by_cases a1 : i = 2 * k
    · have a2 : m = 2 * k + 1 := by unfold secN at hmp; unfold Edge at hE; omega
      subst a1; subst a2; exact hm hmn
    · by_cases a2 : 0 < k ∧ i = (k - 1) / 2 * 2
      · rw [a2.2, hmp]; exact h3 a2.1
      · have a3 : 2 * k + 1 ≤ i / 2 ∧ i / 2 ≤ 2 * k + 2 := by unfold secN at hmp; unfold Edge at hE; omega
        have b1 := hc (i / 2) a3.1 a3.2 (by omega)
        rw [hmp]
        by_cases a4 : i = secN n (i / 2)
        · rw [← a4] at b1; exact b1
        · exact ho.le_trans (h2 i (secN n (i / 2)) hi (by unfold secN; omega) (by unfold secN at a4 ⊢; unfold Edge; omega) (by unfold secN; omega)) b1
  · exact h2 i m hi hmn hE hmp
theorem Sink1.step (ho : IsOrd lt) {f : Nat → α} {n k b : Nat} (h : Sink1 lt f n k) (hm : Mate lt f n k) (hb1 : 2 * k + 1 ≤ b) (hb2 : b ≤ 2 * k + 2) (hbn : 2 * b < n)
    (hc : ∀ c, 2 * k + 1 ≤ c → c ≤ 2 * k + 2 → 2 * c < n → lt (f (secN n b)) (f (secN n c)) = false) (hl : lt (f (secN n k)) (f (secN n b)) = true) : Sink1 lt (sw f (secN n b) (secN n k)) n b := by
  obtain ⟨h1, h2, h3, h4⟩ := h
  have hx := ho.asymm hl
  have hs : secN n k = 2 * k + 1 := by unfold secN; omega
  obtain ⟨q, hq⟩ : ∃ q, q = secN n b := ⟨_, rfl⟩
  have hq2 : q = 2 * b ∧ n = 2 * b + 1 ∨ q = 2 * b + 1 ∧ 2 * b + 1 < n := by unfold secN at hq; omega
  unfold Sink1
  rw [hs] at h2 h3 h4 hl hx ⊢
  rw [← hq] at hc hl hx ⊢
  have g1 : sw f q (2 * k + 1) q = f (2 * k + 1) := by simp only [sw, if_true]
  have g2 : sw f q (2 * k + 1) (2 * k + 1) = f q := by simp only [sw, show 2 * k + 1 ≠ q by omega, if_true, if_false]
  have g : ∀ m, m ≠ 2 * k + 1 → m ≠ q → sw f q (2 * k + 1) m = f m := fun m a b => by simp only [sw, a, b, if_false]
  have hkm := hm (by omega)
  refine ⟨hbn, fun i m hi hmn hE hn => ?_, fun h0 => ?_, fun h0 i hi hE => ?_⟩
  · by_cases hmk : m = 2 * k + 1
    · subst hmk
      rw [g2]
      have a0 : i ≠ 2 * k + 1 := by unfold Edge at hE; omega
      by_cases a5 : i = q
      · subst a5; rw [g1]; exact hx
      · rw [g i a0 a5]
        by_cases a1 : i = 2 * k
        · subst a1; exact ho.le_trans hkm hx
        · by_cases a2 : 0 < k ∧ i = (k - 1) / 2 * 2
          · rw [a2.2]; exact ho.le_trans (h3 a2.1) hx
          · have a3 : 2 * k + 1 ≤ i / 2 ∧ i / 2 ≤ 2 * k + 2 := by unfold Edge at hE; omega
            have b1 := hc (i / 2) a3.1 a3.2 (by omega)
            by_cases a4 : i = secN n (i / 2)
            · rw [← a4] at b1; exact b1
            · exact ho.le_trans (h2 i (secN n (i / 2)) hi (by unfold secN; omega) (by unfold secN at a4 ⊢; unfold Edge; omega) (by unfold secN; omega)) b1
    · rw [g m hmk hn]
      by_cases hik : i = 2 * k + 1
      · subst hik
        rw [g2]
        have a1 : 0 < k ∧ m = (k - 1) / 2 * 2 + 1 := by unfold Edge at hE; omega
        rw [a1.2]
        exact h4 a1.1 _ (by omega) (by unfold Edge; omega)
      · by_cases hib : i = q
        · exfalso; unfold Edge at hE; omega
        · rw [g i hik hib]
          exact h2 i m hi hmn hE hmk
  · rw [g1, show (b - 1) / 2 * 2 = 2 * k by omega, g _ (by omega) (by omega)]
    exact hkm
  · rw [show (b - 1) / 2 * 2 + 1 = 2 * k + 1 by omega, g2]
    have a0 : i ≠ q := by unfold Edge at hE; omega
    have a1 : i ≠ 2 * k + 1 := by unfold Edge at hE; omega
    rw [g i a1 a0]
    exact h2 i q hi (by omega) hE (by omega)
end Go.Abs
