/-
  Plain law: the interval heap when something sinks.
-/
import Derived.Test.YtjcncbejnplakaaIlaw2
set_option maxRecDepth 100000
set_option linter.unusedSimpArgs false
set_option linter.unusedVariables false
namespace Go.Proofs.Ytjcncbejnplakaa
open Go Go.Abs

theorem secondN_eq (n k : Nat) : secondN n k = secN n k := rfl
theorem atN_0 (n k : Nat) : atN n k 0 = 2 * k := by unfold atN; rw [if_pos rfl]
theorem atN_1 (n k : Nat) : atN n k 1 = secN n k := by unfold atN; rw [if_neg (by omega)]; rfl

theorem pairL_perm (L : List Ent) (k : Nat) : (pairL L k).Perm L := by
  unfold pairL
  split
  · exact swapL_perm _ _ _
  · exact .refl _
theorem sinkL_perm (e : Nat) : ∀ (d k : Nat) (L : List Ent), L.length - k = d → (sinkL e k L).Perm L := by
  intro d
  induction d using Nat.strongRecOn with
  | ind d ih =>
    intro k L hd
    cases hb : bestI (pairL L k) k e 2 with
    | none => rw [sinkL_none hb]; exact pairL_perm L k
    | some b =>
      cases hx : beatsL (pairL L k) b k e with
      | false => rw [sinkL_lose hb hx]; exact pairL_perm L k
      | true =>
        rw [sinkL_win hb hx]
        have h1 := bestI_some hb
        rw [pairL_length] at h1
        refine (ih (L.length - b) (by omega) b _ (by rw [swapL_length, pairL_length])).trans ((swapL_perm _ _ _).trans (pairL_perm L k))

theorem pair_get {L : List Ent} {k : Nat} (hk : 2 * k < L.length) : (getE (pairL L k) = getE L ∧ Mate Ent.lt (getE L) L.length k) ∨ (2 * k + 1 < L.length ∧ (getE L (2 * k + 1)).lt (getE L (2 * k)) = true ∧ getE (pairL L k) = sw (getE L) (2 * k + 1) (2 * k)) := by
  unfold pairL
  by_cases h : 2 * k + 1 < L.length
  · have hs : secondN L.length k = 2 * k + 1 := by unfold secondN; omega
    rw [hs, ltAt_get h hk]
    cases hx : (getE L (2 * k + 1)).lt (getE L (2 * k)) with
    | false => exact .inl ⟨by simp, fun _ => hx⟩
    | true => exact .inr ⟨h, rfl, by rw [if_pos rfl, getE_swap h hk]⟩
  · have hs : secondN L.length k = 2 * k := by unfold secondN; omega
    rw [hs, ltAt_get hk hk, isOrd.irr]
    exact .inl ⟨by simp, fun hc => absurd hc h⟩

theorem pair_st0 {L : List Ent} {k : Nat} (h : Sink0 Ent.lt (getE L) L.length k) : Sink0 Ent.lt (getE (pairL L k)) L.length k ∧ Mate Ent.lt (getE (pairL L k)) L.length k := by
  rcases pair_get h.1 with ⟨h1, h2⟩ | ⟨h1, h2, h3⟩
  · rw [h1]; exact ⟨h, h2⟩
  · rw [h3]; exact h.pair isOrd h1 h2
theorem pair_st1 {L : List Ent} {k : Nat} (h : Sink1 Ent.lt (getE L) L.length k) : Sink1 Ent.lt (getE (pairL L k)) L.length k ∧ Mate Ent.lt (getE (pairL L k)) L.length k := by
  rcases pair_get h.1 with ⟨h1, h2⟩ | ⟨h1, h2, h3⟩
  · rw [h1]; exact ⟨h, h2⟩
  · rw [h3]; exact h.pair isOrd h1 h2

theorem beats0 {L : List Ent} {a b : Nat} (ha : 2 * a < L.length) (hb : 2 * b < L.length) : beatsL L a b 0 = (getE L (2 * a)).lt (getE L (2 * b)) := by
  unfold beatsL; rw [if_pos rfl, atN_0, atN_0, ltAt_get ha hb]
theorem beats1 {L : List Ent} {a b : Nat} (ha : 2 * a < L.length) (hb : 2 * b < L.length) : beatsL L a b 1 = (getE L (secN L.length b)).lt (getE L (secN L.length a)) := by
  unfold beatsL; rw [if_neg (by omega), atN_1, atN_1, ltAt_get (by unfold secN; omega) (by unfold secN; omega)]
theorem beats_chain {L : List Ent} {a b c e : Nat} (he : e < 2) (ha : 2 * a < L.length) (hb : 2 * b < L.length) (hc : 2 * c < L.length) (h1 : beatsL L c b e = false) (h2 : beatsL L a b e = true) : beatsL L c a e = false := by
  have hz : e = 0 ∨ e = 1 := by omega
  rcases hz with rfl | rfl
  · rw [beats0 hc hb] at h1
    rw [beats0 ha hb] at h2
    rw [beats0 hc ha]
    cases hx : (getE L (2 * c)).lt (getE L (2 * a)) with
    | false => rfl
    | true => have := isOrd.trans _ _ _ hx h2; rw [h1] at this; exact this.symm
  · rw [beats1 hc hb] at h1
    rw [beats1 ha hb] at h2
    rw [beats1 hc ha]
    cases hx : (getE L (secN L.length a)).lt (getE L (secN L.length c)) with
    | false => rfl
    | true => have := isOrd.trans _ _ _ h2 hx; rw [h1] at this; exact this.symm
theorem beats_irr {L : List Ent} {a e : Nat} (he : e < 2) (ha : 2 * a < L.length) : beatsL L a a e = false := by
  have hz : e = 0 ∨ e = 1 := by omega
  rcases hz with rfl | rfl
  · rw [beats0 ha ha]; exact isOrd.irr _
  · rw [beats1 ha ha]; exact isOrd.irr _

theorem best_of {L : List Ent} {k e : Nat} (he : e < 2) : ∀ j, (bestI L k e j = none → ∀ c, 2 * k + 1 ≤ c → c < 2 * k + 1 + j → ¬ 2 * c < L.length) ∧ (∀ b, bestI L k e j = some b → ∀ c, 2 * k + 1 ≤ c → c < 2 * k + 1 + j → 2 * c < L.length → beatsL L c b e = false) := by
  intro j
  induction j with
  | zero => exact ⟨fun _ c h1 h2 => by omega, fun b h => by simp [bestI] at h⟩
  | succ j ih =>
    obtain ⟨i1, i2⟩ := ih
    have hcs : ∀ c, c < 2 * k + 1 + (j + 1) → c = 2 * k + 1 + j ∨ c < 2 * k + 1 + j := fun c _ => by omega
    cases hb : bestI L k e j with
    | none =>
      have hP : bestI L k e (j + 1) = if 2 * (2 * k + 1 + j) < L.length then some (2 * k + 1 + j) else none := by rw [bestI, hb]; simp
      rw [hP]
      refine ⟨fun h c h1 h2 => ?_, fun b h c h1 h2 h3 => ?_⟩
      · rcases hcs c h2 with rfl | h2
        · intro hc; rw [if_pos hc] at h; simp at h
        · exact i1 hb c h1 h2
      · rcases hcs c h2 with rfl | h2
        · rw [if_pos h3] at h
          simp only [Option.some.injEq] at h
          subst h
          exact beats_irr he h3
        · exact absurd h3 (i1 hb c h1 h2)
    | some a =>
      have ha := bestI_some hb
      have hP : bestI L k e (j + 1) = if 2 * (2 * k + 1 + j) < L.length ∧ beatsL L (2 * k + 1 + j) a e = true then some (2 * k + 1 + j) else some a := by rw [bestI, hb]; simp
      rw [hP]
      refine ⟨fun h => ?_, fun b h c h1 h2 h3 => ?_⟩
      · split at h <;> simp at h
      · split at h
        · rename_i hw
          simp only [Option.some.injEq] at h
          subst h
          rcases hcs c h2 with rfl | h2
          · exact beats_irr he h3
          · exact beats_chain he hw.1 ha.1 h3 (i2 a hb c h1 h2 h3) hw.2
        · rename_i hw
          simp only [Option.some.injEq] at h
          subst h
          rcases hcs c h2 with rfl | h2
          · cases hx : beatsL L (2 * k + 1 + j) a e with
            | false => rfl
            | true => exact absurd ⟨h3, hx⟩ hw
          · exact i2 a hb c h1 h2 h3

theorem sink0_st : ∀ (d k : Nat) (L : List Ent), L.length - k = d → Sink0 Ent.lt (getE L) L.length k → StL (sinkL 0 k L) := by
  intro d
  induction d using Nat.strongRecOn with
  | ind d ih =>
    intro k L hd hs
    obtain ⟨p1, p2⟩ := pair_st0 hs
    have hlen := pairL_length L k
    have hk := hs.1
    obtain ⟨b1, b2⟩ := best_of (L := pairL L k) (k := k) (e := 0) (by omega) 2
    cases hb : bestI (pairL L k) k 0 2 with
    | none =>
      rw [sinkL_none hb]
      rw [← hlen] at p1 p2
      exact p1.done isOrd p2 fun c h1 h2 h3 => absurd h3 (b1 hb c h1 (by omega))
    | some b =>
      have h1 := bestI_some hb
      have h2 := b2 b hb
      rw [hlen] at h1
      cases hx : beatsL (pairL L k) b k 0 with
      | false =>
        rw [sinkL_lose hb hx]
        rw [beats0 (by omega) (by omega)] at hx
        rw [← hlen] at p1 p2
        refine p1.done isOrd p2 fun c c1 c2 c3 => ?_
        have h3 := h2 c c1 (by omega) c3
        rw [beats0 c3 (by omega)] at h3
        exact isOrd.le_trans hx h3
      | true =>
        rw [sinkL_win hb hx]
        rw [beats0 (by omega) (by omega)] at hx
        rw [atN_0, atN_0]
        refine ih (L.length - b) (by omega) b _ (by rw [swapL_length, hlen]) ?_
        rw [getE_swap (by omega) (by omega), swapL_length, hlen]
        refine p1.step isOrd p2 h1.2.1 (by omega) h1.1 (fun c c1 c2 c3 => ?_) hx
        have h3 := h2 c c1 (by omega) (by omega)
        rw [beats0 (by omega) (by omega)] at h3
        exact h3
theorem sink1_st : ∀ (d k : Nat) (L : List Ent), L.length - k = d → Sink1 Ent.lt (getE L) L.length k → StL (sinkL 1 k L) := by
  intro d
  induction d using Nat.strongRecOn with
  | ind d ih =>
    intro k L hd hs
    obtain ⟨p1, p2⟩ := pair_st1 hs
    have hlen := pairL_length L k
    have hk := hs.1
    obtain ⟨b1, b2⟩ := best_of (L := pairL L k) (k := k) (e := 1) (by omega) 2
    cases hb : bestI (pairL L k) k 1 2 with
    | none =>
      rw [sinkL_none hb]
      rw [← hlen] at p1 p2
      exact p1.done isOrd p2 fun c h1 h2 h3 => absurd h3 (b1 hb c h1 (by omega))
    | some b =>
      have h1 := bestI_some hb
      have h2 := b2 b hb
      rw [hlen] at h1
      cases hx : beatsL (pairL L k) b k 1 with
      | false =>
        rw [sinkL_lose hb hx]
        rw [beats1 (by omega) (by omega)] at hx
        rw [← hlen] at p1 p2
        refine p1.done isOrd p2 fun c c1 c2 c3 => ?_
        have h3 := h2 c c1 (by omega) c3
        rw [beats1 c3 (by omega)] at h3
        exact isOrd.le_trans h3 hx
      | true =>
        rw [sinkL_win hb hx]
        rw [beats1 (by omega) (by omega), hlen] at hx
        rw [atN_1, atN_1]
        refine ih (L.length - b) (by omega) b _ (by rw [swapL_length, hlen]) ?_
        rw [getE_swap (by unfold secN; omega) (by unfold secN; omega), swapL_length, hlen]
        refine p1.step isOrd p2 h1.2.1 (by omega) h1.1 (fun c c1 c2 c3 => ?_) hx
        have h3 := h2 c c1 (by omega) (by omega)
        rw [beats1 (by omega) (by omega), hlen] at h3
        exact h3
end Go.Proofs.Ytjcncbejnplakaa
