/-
  Plain law: the interval heap as it is pushed to and popped: it stands right, and holds what it should.
-/
import Derived.Test.YtgecnmjohhmfjaaIheap7
import Derived.Test.YtgecnmjohhmfjaaIordA
import Derived.Test.YtgecnmjohhmfjaaEntOrd
set_option maxRecDepth 100000
set_option linter.unusedSimpArgs false
set_option linter.unusedVariables false
namespace Go.Proofs.Ytgecnmjohhmfjaa
open Go Go.Abs
def zeroE : Ent := ⟨0, 0, 0, 0⟩
def getE (L : List Ent) (i : Nat) : Ent := (L[i]?).getD zeroE
theorem getE_eq {L : List Ent} {i : Nat} (h : i < L.length) : getE L i = L[i] := by unfold getE; rw [List.getElem?_eq_getElem h]; rfl
def StL (L : List Ent) : Prop := StF Ent.lt (getE L) L.length
theorem ltAt_get {L : List Ent} {i k : Nat} (hi : i < L.length) (hk : k < L.length) : ltAt L i k = (getE L i).lt (getE L k) := by rw [ltAt_eq hi hk, getE_eq hi, getE_eq hk]
theorem swapL_eq {L : List Ent} {i k : Nat} (hi : i < L.length) (hk : k < L.length) : swapL L i k = (L.set i L[k]).set k L[i] := by
  unfold swapL; rw [List.getElem?_eq_getElem hi, List.getElem?_eq_getElem hk]
theorem getE_swap {L : List Ent} {i k : Nat} (hi : i < L.length) (hk : k < L.length) : getE (swapL L i k) = sw (getE L) i k := by
  funext m
  unfold sw
  rw [swapL_eq hi hk, getE_eq hi, getE_eq hk]
  unfold getE
  rw [List.getElem?_set, List.getElem?_set]
  by_cases h1 : m = i
  · subst h1
    by_cases h2 : k = m
    · subst h2; simp [hi]
    · simp [h2, hi]
  · by_cases h2 : m = k
    · subst h2; simp [h1, hk]
    · simp [h1, h2, Ne.symm h1, Ne.symm h2]
theorem swapL_perm (L : List Ent) (i k : Nat) : (swapL L i k).Perm L := by
  by_cases h : i < L.length ∧ k < L.length
  · rw [swapL_eq h.1 h.2]
    exact List.set_set_perm h.1 h.2
  · unfold swapL
    split
    · rename_i a b h1 h2
      have h1' := (List.getElem?_eq_some_iff.1 h1).1
      have h2' := (List.getElem?_eq_some_iff.1 h2).1
      omega
    · exact .refl _
theorem riseL_perm (e : Nat) : ∀ (i : Nat) (L : List Ent), (riseL e i L).Perm L := by
  intro i
  induction i using Nat.strongRecOn with
  | ind i ih =>
    intro L
    rw [riseL]
    split
    · rename_i h
      simp only
      split
      · split
        · exact .refl _
        · exact (ih _ (by omega) _).trans (swapL_perm _ _ _)
      · exact .refl _
    · exact .refl _
theorem rise0_st : ∀ (j : Nat) (L : List Ent), Rise0 Ent.lt (getE L) L.length j → StL (riseL 0 j L) := by
  intro j
  induction j using Nat.strongRecOn with
  | ind j ih =>
    intro L h
    have hj := h.1
    rw [riseL]
    by_cases h2 : 2 ≤ j
    · rw [dif_pos ⟨h2, by omega⟩]
      obtain ⟨up, hup⟩ : ∃ up, up = (j / 2 - 1) / 2 * 2 := ⟨_, rfl⟩
      have hul : up < L.length := by omega
      simp only [Nat.add_zero, ← hup, List.getElem?_eq_getElem hj, List.getElem?_eq_getElem hul]
      rw [← getE_eq hj, ← getE_eq hul]
      cases hx : (getE L j).lt (getE L up) with
      | false =>
        rw [if_pos (by simp)]
        exact h.done (.inr (by rw [← hup]; exact hx))
      | true =>
        rw [if_neg (by simp)]
        refine ih up (by omega) _ ?_
        rw [getE_swap hj hul, swapL_length]
        exact h.step isOrd h2 hup hx
    · rw [dif_neg (by omega)]
      exact h.done (.inl (by omega))
theorem rise1_st : ∀ (j : Nat) (L : List Ent), Rise1 Ent.lt (getE L) L.length j → StL (riseL 1 j L) := by
  intro j
  induction j using Nat.strongRecOn with
  | ind j ih =>
    intro L h
    have hj := h.1
    rw [riseL]
    by_cases h2 : 2 ≤ j
    · rw [dif_pos ⟨h2, by omega⟩]
      obtain ⟨up, hup⟩ : ∃ up, up = (j / 2 - 1) / 2 * 2 + 1 := ⟨_, rfl⟩
      have hul : up < L.length := by omega
      simp only [← hup, List.getElem?_eq_getElem hj, List.getElem?_eq_getElem hul]
      rw [← getE_eq hj, ← getE_eq hul]
      cases hx : (getE L up).lt (getE L j) with
      | false =>
        rw [if_pos (by simp)]
        exact h.done (.inr (by rw [← hup]; exact hx))
      | true =>
        rw [if_neg (by simp)]
        refine ih up (by omega) _ ?_
        rw [getE_swap hj hul, swapL_length]
        exact h.step isOrd h2 hup hx
    · rw [dif_neg (by omega)]
      exact h.done (.inl (by omega))
end Go.Proofs.Ytgecnmjohhmfjaa
/-
  Plain law: the interval heap pushed to: it stands right, and holds one more.
-/
set_option maxRecDepth 100000
set_option linter.unusedSimpArgs false
set_option linter.unusedVariables false
namespace Go.Proofs.Ytgecnmjohhmfjaa
open Go Go.Abs
theorem StF.congr {f g : Nat → Ent} {n : Nat} (h : StF Ent.lt f n) (he : ∀ i, i < n → g i = f i) : StF Ent.lt g n := fun i k hi hk hE => by rw [he i hi, he k hk]; exact h i k hi hk hE
theorem getE_append {L : List Ent} {x : Ent} {i : Nat} (h : i < L.length) : getE (L ++ [x]) i = getE L i := by unfold getE; rw [List.getElem?_append_left h]
theorem pushL_st {L : List Ent} (h : StL L) (x : Ent) : StL (pushL L x) := by
  have hf : StF Ent.lt (getE (L ++ [x])) L.length := StF.congr h fun i hi => getE_append hi
  have hlen : (L ++ [x]).length = L.length + 1 := by simp
  unfold pushL
  simp only
  generalize L ++ [x] = M at *
  generalize L.length = n at *
  split
  · rename_i hc
    obtain ⟨c1, c2⟩ := hc
    rw [ltAt_get (by omega) (by omega)] at c2
    refine rise0_st _ _ ?_
    rw [getE_swap (by omega) (by omega), swapL_length, hlen]
    exact push_turn isOrd hf c1 c2
  · rename_i hc
    split
    · rename_i hd
      obtain ⟨d1, d2, d3⟩ := hd
      have hu : aboveN n 1 < n := by unfold aboveN; omega
      rw [ltAt_get (by omega) (by omega)] at d3
      refine rise1_st _ _ ?_
      rw [hlen]
      exact push_hi isOrd hf d1 d2 d3
    · rename_i hd
      have hz : n % 2 = 0 ∨ n % 2 = 1 := by omega
      rcases hz with hz | hz
      · rw [hz]
        refine rise0_st _ _ ?_
        rw [hlen]
        refine push_lo hf hz ?_
        by_cases h2 : 2 ≤ n
        · have hu : aboveN n 1 < n := by unfold aboveN; omega
          right
          cases hx : (getE M ((n / 2 - 1) / 2 * 2 + 1)).lt (getE M n) with
          | false => rfl
          | true => exact absurd ⟨hz, h2, by rw [ltAt_get (by omega) (by omega)]; exact hx⟩ hd
        · left; omega
      · rw [hz]
        refine rise1_st _ _ ?_
        rw [hlen]
        refine push_mate isOrd hf hz ?_
        cases hx : (getE M n).lt (getE M (n - 1)) with
        | false => rfl
        | true => exact absurd ⟨hz, by rw [ltAt_get (by omega) (by omega)]; exact hx⟩ hc
theorem pushL_perm (L : List Ent) (x : Ent) : (pushL L x).Perm (x :: L) := by
  have h0 : (L ++ [x]).Perm (x :: L) := List.perm_append_comm
  unfold pushL
  simp only
  split
  · exact (riseL_perm _ _ _).trans ((swapL_perm _ _ _).trans h0)
  · split
    · exact (riseL_perm _ _ _).trans h0
    · exact (riseL_perm _ _ _).trans h0
theorem nil_st : StL [] := fun i k hi _ _ => by simp at hi
theorem foldl_push_st : ∀ (l L : List Ent), StL L → StL (l.foldl pushL L) ∧ (l.foldl pushL L).Perm (l ++ L)
  | [], L, h => ⟨h, .refl _⟩
  | x :: l, L, h => by
    obtain ⟨h1, h2⟩ := foldl_push_st l (pushL L x) (pushL_st h x)
    refine ⟨h1, h2.trans ?_⟩
    refine ((pushL_perm L x).append_left l).trans ?_
    exact List.perm_middle
theorem buildL_st (l : List Ent) : StL (buildL l) := (foldl_push_st l [] nil_st).1
theorem buildL_perm (l : List Ent) : (buildL l).Perm l := by have := (foldl_push_st l [] nil_st).2; rwa [List.append_nil] at this
end Go.Proofs.Ytgecnmjohhmfjaa
/-
  Plain law: the interval heap when something sinks.
-/
set_option maxRecDepth 100000
set_option linter.unusedSimpArgs false
set_option linter.unusedVariables false
namespace Go.Proofs.Ytgecnmjohhmfjaa
open Go Go.Abs
theorem secondN_eq (n k : Nat) : secondN n k = secN n k := rfl
theorem atN_0 (n k : Nat) : atN n k 0 = 2 * k := by unfold atN; rw [if_pos rfl]
theorem atN_1 (n k : Nat) : atN n k 1 = secN n k := by unfold atN; rw [if_neg (by omega)]; rfl
theorem pairL_perm (L : List Ent) (k : Nat) : (pairL L k).Perm L := by
  unfold pairL
  split
  · exact swapL_perm _ _ _
  · exact .refl _
theorem sinkL_perm (e : Nat) : ∀ (d k : Nat) (L : List Ent), L.length - k = d → (sinkL e k L).Perm L := by
  intro d
  induction d using Nat.strongRecOn with
  | ind d ih =>
    intro k L hd
    cases hb : bestI (pairL L k) k e 2 with
    | none => rw [sinkL_none hb]; exact pairL_perm L k
    | some b =>
      cases hx : beatsL (pairL L k) b k e with
      | false => rw [sinkL_lose hb hx]; exact pairL_perm L k
      | true =>
        rw [sinkL_win hb hx]
        have h1 := bestI_some hb
        rw [pairL_length] at h1
        refine (ih (L.length - b) (by omega) b _ (by rw [swapL_length, pairL_length])).trans ((swapL_perm _ _ _).trans (pairL_perm L k))
theorem pair_get {L : List Ent} {k : Nat} (hk : 2 * k < L.length) : (getE (pairL L k) = getE L ∧ Mate Ent.lt (getE L) L.length k) ∨ (2 * k + 1 < L.length ∧ (getE L (2 * k + 1)).lt (getE L (2 * k)) = true ∧ getE (pairL L k) = sw (getE L) (2 * k + 1) (2 * k)) := by
  unfold pairL
  by_cases h : 2 * k + 1 < L.length
  · have hs : secondN L.length k = 2 * k + 1 := by unfold secondN; omega
    rw [hs, ltAt_get h hk]
    cases hx : (getE L (2 * k + 1)).lt (getE L (2 * k)) with
    | false => exact .inl ⟨by simp, fun _ => hx⟩
    | true => exact .inr ⟨h, rfl, by rw [if_pos rfl, getE_swap h hk]⟩
  · have hs : secondN L.length k = 2 * k := by unfold secondN; omega
    rw [hs, ltAt_get hk hk, isOrd.irr]
    exact .inl ⟨by simp, fun hc => absurd hc h⟩
theorem pair_st0 {L : List Ent} {k : Nat} (h : Sink0 Ent.lt (getE L) L.length k) : Sink0 Ent.lt (getE (pairL L k)) L.length k ∧ Mate Ent.lt (getE (pairL L k)) L.length k := by
  rcases pair_get h.1 with ⟨h1, h2⟩ | ⟨h1, h2, h3⟩
  · rw [h1]; exact ⟨h, h2⟩
  · rw [h3]; exact h.pair isOrd h1 h2
theorem pair_st1 {L : List Ent} {k : Nat} (h : Sink1 Ent.lt (getE L) L.length k) : Sink1 Ent.lt (getE (pairL L k)) L.length k ∧ Mate Ent.lt (getE (pairL L k)) L.length k := by
  rcases pair_get h.1 with ⟨h1, h2⟩ | ⟨h1, h2, h3⟩
  · rw [h1]; exact ⟨h, h2⟩
  · rw [h3]; exact h.pair isOrd h1 h2
theorem beats0 {L : List Ent} {a b : Nat} (ha : 2 * a < L.length) (hb : 2 * b < L.length) : beatsL L a b 0 = (getE L (2 * a)).lt (getE L (2 * b)) := by
  unfold beatsL; rw [if_pos rfl, atN_0, atN_0, ltAt_get ha hb]
theorem beats1 {L : List Ent} {a b : Nat} (ha : 2 * a < L.length) (hb : 2 * b < L.length) : beatsL L a b 1 = (getE L (secN L.length b)).lt (getE L (secN L.length a)) := by
  unfold beatsL; rw [if_neg (by omega), atN_1, atN_1, ltAt_get (by unfold secN; omega) (by unfold secN; omega)]
theorem beats_chain {L : List Ent} {a b c e : Nat} (he : e < 2) (ha : 2 * a < L.length) (hb : 2 * b < L.length) (hc : 2 * c < L.length) (h1 : beatsL L c b e = false) (h2 : beatsL L a b e = true) : beatsL L c a e = false := by
  have hz : e = 0 ∨ e = 1 := by omega
  rcases hz with rfl | rfl
  · rw [beats0 hc hb] at h1
    rw [beats0 ha hb] at h2
    rw [beats0 hc ha]
    cases hx : (getE L (2 * c)).lt (getE L (2 * a)) with
    | false => rfl
    | true => have := isOrd.trans _ _ _ hx h2; rw [h1] at this; exact this.symm
  · rw [beats1 hc hb] at h1
    rw [beats1 ha hb] at h2
    rw [beats1 hc ha]
    cases hx : (getE L (secN L.length a)).lt (getE L (secN L.length c)) with
    | false => rfl
    | true => have := isOrd.trans _ _ _ h2 hx; rw [h1] at this; exact this.symm
theorem beats_irr {L : List Ent} {a e : Nat} (he : e < 2) (ha : 2 * a < L.length) : beatsL L a a e = false := by
  have hz : e = 0 ∨ e = 1 := by omega
  rcases hz with rfl | rfl
  · rw [beats0 ha ha]; exact isOrd.irr _
  · rw [beats1 ha ha]; exact isOrd.irr _
theorem best_of {L : List Ent} {k e : Nat} (he : e < 2) : ∀ j, (bestI L k e j = none → ∀ c, 2 * k + 1 ≤ c → c < 2 * k + 1 + j → ¬ 2 * c < L.length) ∧ (∀ b, bestI L k e j = some b → ∀ c, 2 * k + 1 ≤ c → c < 2 * k + 1 + j → 2 * c < L.length → beatsL L c b e = false) := by
  intro j
  induction j with
  | zero => exact ⟨fun _ c h1 h2 => by omega, fun b h => by simp [bestI] at h⟩
  | succ j ih =>
    obtain ⟨i1, i2⟩ := ih
    have hcs : ∀ c, c < 2 * k + 1 + (j + 1) → c = 2 * k + 1 + j ∨ c < 2 * k + 1 + j := fun c _ => by omega
    cases hb : bestI L k e j with
    | none =>
      have hP : bestI L k e (j + 1) = if 2 * (2 * k + 1 + j) < L.length then some (2 * k + 1 + j) else none := by rw [bestI, hb]; simp
      rw [hP]
      refine ⟨fun h c h1 h2 => ?_, fun b h c h1 h2 h3 => ?_⟩
      · rcases hcs c h2 with rfl | h2
        · intro hc; rw [if_pos hc] at h; simp at h
        · exact i1 hb c h1 h2
      · rcases hcs c h2 with rfl | h2
        · rw [if_pos h3] at h
          simp only [Option.some.injEq] at h
          subst h
          exact beats_irr he h3
        · exact absurd h3 (i1 hb c h1 h2)
    | some a =>
      have ha := bestI_some hb
      have hP : bestI L k e (j + 1) = if 2 * (2 * k + 1 + j) < L.length ∧ beatsL L (2 * k + 1 + j) a e = true then some (2 * k + 1 + j) else some a := by rw [bestI, hb]; simp
      rw [hP]
      refine ⟨fun h => ?_, fun b h c h1 h2 h3 => ?_⟩
      · split at h <;> simp at h
      · split at h
        · rename_i hw
          simp only [Option.some.injEq] at h
          subst h
          rcases hcs c h2 with rfl | h2
          · exact beats_irr he h3
          · exact beats_chain he hw.1 ha.1 h3 (i2 a hb c h1 h2 h3) hw.2
        · rename_i hw
          simp only [Option.some.injEq] at h
          subst h
          rcases hcs c h2 with rfl | h2
          · cases hx : beatsL L (2 * k + 1 + j) a e with
            | false => rfl
            | true => exact absurd ⟨h3, hx⟩ hw
          · exact i2 a hb c h1 h2 h3
theorem sink0_st : ∀ (d k : Nat) (L : List Ent), L.length - k = d → Sink0 Ent.lt (getE L) L.length k → StL (sinkL 0 k L) := by
  intro d
  induction d using Nat.strongRecOn with
  | ind d ih =>
    intro k L hd hs
    obtain ⟨p1, p2⟩ := pair_st0 hs
    have hlen := pairL_length L k
    have hk := hs.1
    obtain ⟨b1, b2⟩ := best_of (L := pairL L k) (k := k) (e := 0) (by omega) 2
    cases hb : bestI (pairL L k) k 0 2 with
    | none =>
      rw [sinkL_none hb]
      rw [← hlen] at p1 p2
      exact p1.done isOrd p2 fun c h1 h2 h3 => absurd h3 (b1 hb c h1 (by omega))
    | some b =>
      have h1 := bestI_some hb
      have h2 := b2 b hb
      rw [hlen] at h1
      cases hx : beatsL (pairL L k) b k 0 with
      | false =>
        rw [sinkL_lose hb hx]
        rw [beats0 (by omega) (by omega)] at hx
        rw [← hlen] at p1 p2
        refine p1.done isOrd p2 fun c c1 c2 c3 => ?_
        have h3 := h2 c c1 (by omega) c3
        rw [beats0 c3 (by omega)] at h3
        exact isOrd.le_trans hx h3
      | true =>
        rw [sinkL_win hb hx]
        rw [beats0 (by omega) (by omega)] at hx
        rw [atN_0, atN_0]
        refine ih (L.length - b) (by omega) b _ (by rw [swapL_length, hlen]) ?_
        rw [getE_swap (by omega) (by omega), swapL_length, hlen]
        refine p1.step isOrd p2 h1.2.1 (by omega) h1.1 (fun c c1 c2 c3 => ?_) hx
        have h3 := h2 c c1 (by omega) (by omega)
        rw [beats0 (by omega) (by omega)] at h3
        exact h3
theorem sink1_st : ∀ (d k : Nat) (L : List Ent), L.length - k = d → Sink1 Ent.lt (getE L) L.length k → StL (sinkL 1 k L) := by
  intro d
  induction d using Nat.strongRecOn with
  | ind d ih =>
    intro k L hd hs
    obtain ⟨p1, p2⟩ := pair_st1 hs
    have hlen := pairL_length L k
    have hk := hs.1
    obtain ⟨b1, b2⟩ := best_of (L := pairL L k) (k := k) (e := 1) (by omega) 2
    cases hb : bestI (pairL L k) k 1 2 with
    | none =>
      rw [sinkL_none hb]
      rw [← hlen] at p1 p2
      exact p1.done isOrd p2 fun c h1 h2 h3 => absurd h3 (b1 hb c h1 (by omega))
    | some b =>
      have h1 := bestI_some hb
      have h2 := b2 b hb
      rw [hlen] at h1
      cases hx : beatsL (pairL L k) b k 1 with
      | false =>
        rw [sinkL_lose hb hx]
        rw [beats1 (by omega) (by omega)] at hx
        rw [← hlen] at p1 p2
        refine p1.done isOrd p2 fun c c1 c2 c3 => ?_
        have h3 := h2 c c1 (by omega) c3
        rw [beats1 c3 (by omega)] at h3
        exact isOrd.le_trans h3 hx
      | true =>
        rw [sinkL_win hb hx]
        rw [beats1 (by omega) (by omega), hlen] at hx
        rw [atN_1, atN_1]
        refine ih (L.length - b) (by omega) b _ (by rw [swapL_length, hlen]) ?_
        rw [getE_swap (by unfold secN; omega) (by unfold secN; omega), swapL_length, hlen]
        refine p1.step isOrd p2 h1.2.1 (by omega) h1.1 (fun c c1 c2 c3 => ?_) hx
        have h3 := h2 c c1 (by omega) (by omega)
        rw [beats1 (by omega) (by omega), hlen] at h3
        exact h3
end Go.Proofs.Ytgecnmjohhmfjaa
/-
  Plain law: the interval heap popped from, and what its ends tell.
-/
set_option maxRecDepth 100000
set_option linter.unusedSimpArgs false
set_option linter.unusedVariables false
namespace Go.Proofs.Ytgecnmjohhmfjaa
open Go Go.Abs
theorem take_last {l : List Ent} {m : Nat} (h : l.length = m + 1) : l = l.take m ++ [getE l m] := by
  have h1 := (List.take_append_drop m l).symm
  rw [List.drop_eq_getElem_cons (by omega), List.drop_eq_nil_of_le (by omega), ← getE_eq (show m < l.length by omega)] at h1
  exact h1
theorem getE_take {l : List Ent} {m i : Nat} (h : i < m) : getE (l.take m) i = getE l i := by
  unfold getE; rw [List.getElem?_take, if_pos h]
theorem pop_shape {L : List Ent} (h : 0 < L.length) (e : Nat) : popL e L = if 2 < L.length then sinkL e 0 ((swapL L (atN L.length 0 e) (L.length - 1)).take (L.length - 1)) else (swapL L (atN L.length 0 e) (L.length - 1)).take (L.length - 1) := by
  unfold popL; rw [if_neg (by omega)]
theorem pop_perm {L : List Ent} (h : 0 < L.length) (e : Nat) : (getE L (atN L.length 0 e) :: popL e L).Perm L := by
  have ha : atN L.length 0 e < L.length := atN_lt (by omega)
  have h1 : swapL L (atN L.length 0 e) (L.length - 1) = (swapL L (atN L.length 0 e) (L.length - 1)).take (L.length - 1) ++ [getE L (atN L.length 0 e)] := by
    have := take_last (l := swapL L (atN L.length 0 e) (L.length - 1)) (m := L.length - 1) (by rw [swapL_length]; omega)
    rw [getE_swap ha (by omega)] at this
    have h2 : sw (getE L) (atN L.length 0 e) (L.length - 1) (L.length - 1) = getE L (atN L.length 0 e) := by
      unfold sw
      split
      · rename_i hc; rw [← hc]
      · rw [if_pos rfl]
    rw [h2] at this
    exact this
  have h3 : (popL e L).Perm ((swapL L (atN L.length 0 e) (L.length - 1)).take (L.length - 1)) := by
    rw [pop_shape h]
    split
    · exact sinkL_perm _ _ _ _ rfl
    · exact .refl _
  refine (h3.cons _).trans (.trans ?_ (swapL_perm L (atN L.length 0 e) (L.length - 1)))
  rw [h1, List.take_left' (by simp [swapL_length])]
  exact (List.perm_append_singleton _ _).symm
theorem pop_length {L : List Ent} (h : 0 < L.length) (e : Nat) : (popL e L).length = L.length - 1 := by
  have := (pop_perm h e).length_eq
  simp at this
  omega
theorem pop_st0 {L : List Ent} (h : StL L) : StL (popL 0 L) := by
  by_cases h0 : L.length = 0
  · unfold popL; rw [if_pos h0]; exact h
  · rw [pop_shape (by omega), atN_0]
    obtain ⟨M, hM⟩ : ∃ M, M = (swapL L 0 (L.length - 1)).take (L.length - 1) := ⟨_, rfl⟩
    have hl : M.length = L.length - 1 := by rw [hM]; simp [swapL_length]
    have hg : ∀ i, i < L.length - 1 → i ≠ 0 → getE M i = getE L i := fun i hi h1 => by
      rw [hM, getE_take hi, getE_swap (by omega) (by omega)]
      unfold sw
      rw [if_neg h1, if_neg (by omega)]
    rw [show 2 * 0 = 0 by rfl, ← hM]
    split
    · refine sink0_st _ 0 M rfl ?_
      rw [hl]
      refine ⟨by omega, fun i m hi hm hE hn => ?_, fun hc => by omega, fun hc => by omega⟩
      have hm0 : m ≠ 0 := by unfold Go.Abs.Edge at hE; omega
      rw [hg i hi (by omega), hg m hm hm0]
      exact h i m (by omega) (by omega) hE
    · intro i k hi hk hE
      rw [hl] at hi hk
      exfalso; unfold Go.Abs.Edge at hE; omega
theorem pop_st1 {L : List Ent} (h : StL L) : StL (popL 1 L) := by
  by_cases h0 : L.length = 0
  · unfold popL; rw [if_pos h0]; exact h
  · rw [pop_shape (by omega), atN_1]
    have ha : secN L.length 0 < L.length := by unfold secN; omega
    obtain ⟨M, hM⟩ : ∃ M, M = (swapL L (secN L.length 0) (L.length - 1)).take (L.length - 1) := ⟨_, rfl⟩
    have hl : M.length = L.length - 1 := by rw [hM]; simp [swapL_length]
    have hg : ∀ i, i < L.length - 1 → i ≠ secN L.length 0 → getE M i = getE L i := fun i hi h1 => by
      rw [hM, getE_take hi, getE_swap ha (by omega)]
      unfold sw
      rw [if_neg h1, if_neg (by omega)]
    rw [← hM]
    split
    · have hs : secN L.length 0 = 1 := by unfold secN; omega
      rw [hs] at hg
      refine sink1_st _ 0 M rfl ?_
      rw [hl]
      have hs' : secN (L.length - 1) 0 = 1 := by unfold secN; omega
      refine ⟨by omega, fun i m hi hm hE hn => ?_, fun hc => by omega, fun hc => by omega⟩
      rw [hs'] at hn
      have hi1 : i ≠ 1 := by unfold Go.Abs.Edge at hE; omega
      rw [hg i hi hi1, hg m hm hn]
      exact h i m (by omega) (by omega) hE
    · intro i k hi hk hE
      rw [hl] at hi hk
      exfalso; unfold Go.Abs.Edge at hE; omega
theorem st_min {L : List Ent} (h : StL L) : ∀ i, i < L.length → (getE L i).lt (getE L 0) = false := by
  intro i
  induction i using Nat.strongRecOn with
  | ind i ih =>
    intro hi
    by_cases h0 : i = 0
    · subst h0; exact isOrd.irr _
    · by_cases h1 : i = 1
      · subst h1; exact h 0 1 (by omega) hi (by unfold Go.Abs.Edge; omega)
      · exact isOrd.le_trans (ih ((i / 2 - 1) / 2 * 2) (by omega) (by omega)) (h ((i / 2 - 1) / 2 * 2) i (by omega) hi (by unfold Go.Abs.Edge; omega))
theorem st_max {L : List Ent} (h : StL L) : ∀ i, i < L.length → (getE L (secN L.length 0)).lt (getE L i) = false := by
  intro i
  induction i using Nat.strongRecOn with
  | ind i ih =>
    intro hi
    by_cases hn : L.length = 1
    · have h1 : secN L.length 0 = 0 := by unfold secN; omega
      have h2 : i = 0 := by omega
      rw [h1, h2]; exact isOrd.irr _
    · have hs : secN L.length 0 = 1 := by unfold secN; omega
      by_cases h1 : i = 1
      · rw [hs, h1]; exact isOrd.irr _
      · by_cases h0 : i = 0
        · rw [hs, h0]; exact h 0 1 (by omega) (by omega) (by unfold Go.Abs.Edge; omega)
        · exact isOrd.le_trans (h i ((i / 2 - 1) / 2 * 2 + 1) hi (by omega) (by unfold Go.Abs.Edge; omega)) (ih ((i / 2 - 1) / 2 * 2 + 1) (by omega) (by omega))
theorem mem_get {L : List Ent} {z : Ent} (h : z ∈ L) : ∃ i, i < L.length ∧ z = getE L i := by
  obtain ⟨i, hi, h⟩ := List.getElem_of_mem h
  exact ⟨i, hi, by rw [getE_eq hi, h]⟩
theorem srt_min {L : List Ent} (h : StL L) (h0 : 0 < L.length) : sortL Ent.lt L = getE L 0 :: sortL Ent.lt (popL 0 L) := by
  have hp := pop_perm h0 0
  rw [atN_0, show 2 * 0 = 0 by rfl] at hp
  refine srt_unique isOrd (sortL_srt isOrd L) (List.pairwise_cons.2 ⟨fun z hz => ?_, sortL_srt isOrd _⟩) (((sortL_perm isOrd L).trans hp.symm).trans ((sortL_perm isOrd _).symm.cons _))
  obtain ⟨i, hi, rfl⟩ := mem_get (hp.mem_iff.1 (List.mem_cons_of_mem _ ((sortL_perm isOrd _).mem_iff.1 hz)))
  exact st_min h i hi
theorem srt_max {L : List Ent} (h : StL L) (h0 : 0 < L.length) : sortL Ent.lt L = sortL Ent.lt (popL 1 L) ++ [getE L (secN L.length 0)] := by
  have hp := pop_perm h0 1
  rw [atN_1] at hp
  refine srt_unique isOrd (sortL_srt isOrd L) (List.pairwise_append.2 ⟨sortL_srt isOrd _, List.pairwise_singleton _ _, fun z hz w hw => ?_⟩) (((sortL_perm isOrd L).trans hp.symm).trans ?_)
  · obtain rfl := List.mem_singleton.1 hw
    obtain ⟨i, hi, rfl⟩ := mem_get (hp.mem_iff.1 (List.mem_cons_of_mem _ ((sortL_perm isOrd _).mem_iff.1 hz)))
    exact st_max h i hi
  · exact (((sortL_perm isOrd _).symm.cons _).trans (List.perm_append_singleton _ _).symm)
theorem tip_min {L : List Ent} (h : StL L) : tipO L 0 = (sortL Ent.lt L).head? := by
  by_cases h0 : L.length = 0
  · rw [List.length_eq_zero_iff.1 h0]; rfl
  · rw [srt_min h (by omega), List.head?_cons]
    unfold tipO
    rw [atN_0, List.getElem?_eq_getElem (by omega), ← getE_eq]
theorem tip_max {L : List Ent} (h : StL L) : tipO L 1 = (sortL Ent.lt L).getLast? := by
  by_cases h0 : L.length = 0
  · rw [List.length_eq_zero_iff.1 h0]; rfl
  · rw [srt_max h (by omega), List.getLast?_concat]
    unfold tipO
    rw [atN_1, List.getElem?_eq_getElem (by unfold secN; omega), ← getE_eq]
end Go.Proofs.Ytgecnmjohhmfjaa
