/-
  Plain law: the interval heap popped from, and what its ends tell.
-/
import Derived.Test.YtjcncbejnplakaaIlaw3
set_option maxRecDepth 100000
set_option linter.unusedSimpArgs false
set_option linter.unusedVariables false
namespace Go.Proofs.Ytjcncbejnplakaa
open Go Go.Abs

theorem take_last {l : List Ent} {m : Nat} (h : l.length = m + 1) : l = l.take m ++ [getE l m] := by
  have h1 := (List.take_append_drop m l).symm
  rw [List.drop_eq_getElem_cons (by omega), List.drop_eq_nil_of_le (by omega), ← getE_eq (show m < l.length by omega)] at h1
  exact h1
theorem getE_take {l : List Ent} {m i : Nat} (h : i < m) : getE (l.take m) i = getE l i := by
  unfold getE; rw [List.getElem?_take, if_pos h]

theorem pop_shape {L : List Ent} (h : 0 < L.length) (e : Nat) : popL e L = if 2 < L.length then sinkL e 0 ((swapL L (atN L.length 0 e) (L.length - 1)).take (L.length - 1)) else (swapL L (atN L.length 0 e) (L.length - 1)).take (L.length - 1) := by
  unfold popL; rw [if_neg (by omega)]
theorem pop_perm {L : List Ent} (h : 0 < L.length) (e : Nat) : (getE L (atN L.length 0 e) :: popL e L).Perm L := by
  have ha : atN L.length 0 e < L.length := atN_lt (by omega)
  have h1 : swapL L (atN L.length 0 e) (L.length - 1) = (swapL L (atN L.length 0 e) (L.length - 1)).take (L.length - 1) ++ [getE L (atN L.length 0 e)] := by
    have := take_last (l := swapL L (atN L.length 0 e) (L.length - 1)) (m := L.length - 1) (by rw [swapL_length]; omega)
    rw [getE_swap ha (by omega)] at this
    have h2 : sw (getE L) (atN L.length 0 e) (L.length - 1) (L.length - 1) = getE L (atN L.length 0 e) := by
      unfold sw
      split
      · rename_i hc; rw [← hc]
      · rw [if_pos rfl]
    rw [h2] at this
    exact this
  have h3 : (popL e L).Perm ((swapL L (atN L.length 0 e) (L.length - 1)).take (L.length - 1)) := by
    rw [pop_shape h]
    split
    · exact sinkL_perm _ _ _ _ rfl
    · exact .refl _
  refine (h3.cons _).trans (.trans ?_ (swapL_perm L (atN L.length 0 e) (L.length - 1)))
  rw [h1, List.take_left' (by simp [swapL_length])]
  exact (List.perm_append_singleton _ _).symm
theorem pop_length {L : List Ent} (h : 0 < L.length) (e : Nat) : (popL e L).length = L.length - 1 := by
  have := (pop_perm h e).length_eq
  simp at this
  omega

theorem pop_st0 {L : List Ent} (h : StL L) : StL (popL 0 L) := by
  by_cases h0 : L.length = 0
  · unfold popL; rw [if_pos h0]; exact h
  · rw [pop_shape (by omega), atN_0]
    obtain ⟨M, hM⟩ : ∃ M, M = (swapL L 0 (L.length - 1)).take (L.length - 1) := ⟨_, rfl⟩
    have hl : M.length = L.length - 1 := by rw [hM]; simp [swapL_length]
    have hg : ∀ i, i < L.length - 1 → i ≠ 0 → getE M i = getE L i := fun i hi h1 => by
      rw [hM, getE_take hi, getE_swap (by omega) (by omega)]
      unfold sw
      rw [if_neg h1, if_neg (by omega)]
    rw [show 2 * 0 = 0 by rfl, ← hM]
    split
    · refine sink0_st _ 0 M rfl ?_
      rw [hl]
      refine ⟨by omega, fun i m hi hm hE hn => ?_, fun hc => by omega, fun hc => by omega⟩
      have hm0 : m ≠ 0 := by unfold Go.Abs.Edge at hE; omega
      rw [hg i hi (by omega), hg m hm hm0]
      exact h i m (by omega) (by omega) hE
    · intro i k hi hk hE
      rw [hl] at hi hk
      exfalso; unfold Go.Abs.Edge at hE; omega
theorem pop_st1 {L : List Ent} (h : StL L) : StL (popL 1 L) := by
  by_cases h0 : L.length = 0
  · unfold popL; rw [if_pos h0]; exact h
  · rw [pop_shape (by omega), atN_1]
    have ha : secN L.length 0 < L.length := by unfold secN; omega
    obtain ⟨M, hM⟩ : ∃ M, M = (swapL L (secN L.length 0) (L.length - 1)).take (L.length - 1) := ⟨_, rfl⟩
    have hl : M.length = L.length - 1 := by rw [hM]; simp [swapL_length]
    have hg : ∀ i, i < L.length - 1 → i ≠ secN L.length 0 → getE M i = getE L i := fun i hi h1 => by
      rw [hM, getE_take hi, getE_swap ha (by omega)]
      unfold sw
      rw [if_neg h1, if_neg (by omega)]
    rw [← hM]
    split
    · have hs : secN L.length 0 = 1 := by unfold secN; omega
      rw [hs] at hg
      refine sink1_st _ 0 M rfl ?_
      rw [hl]
      have hs' : secN (L.length - 1) 0 = 1 := by unfold secN; omega
      refine ⟨by omega, fun i m hi hm hE hn => ?_, fun hc => by omega, fun hc => by omega⟩
      rw [hs'] at hn
      have hi1 : i ≠ 1 := by unfold Go.Abs.Edge at hE; omega
      rw [hg i hi hi1, hg m hm hn]
      exact h i m (by omega) (by omega) hE
    · intro i k hi hk hE
      rw [hl] at hi hk
      exfalso; unfold Go.Abs.Edge at hE; omega

theorem st_min {L : List Ent} (h : StL L) : ∀ i, i < L.length → (getE L i).lt (getE L 0) = false := by
  intro i
  induction i using Nat.strongRecOn with
  | ind i ih =>
    intro hi
    by_cases h0 : i = 0
    · subst h0; exact isOrd.irr _
    · by_cases h1 : i = 1
      · subst h1; exact h 0 1 (by omega) hi (by unfold Go.Abs.Edge; omega)
      · exact isOrd.le_trans (ih ((i / 2 - 1) / 2 * 2) (by omega) (by omega)) (h ((i / 2 - 1) / 2 * 2) i (by omega) hi (by unfold Go.Abs.Edge; omega))
theorem st_max {L : List Ent} (h : StL L) : ∀ i, i < L.length → (getE L (secN L.length 0)).lt (getE L i) = false := by
  intro i
  induction i using Nat.strongRecOn with
  | ind i ih =>
    intro hi
    by_cases hn : L.length = 1
    · have h1 : secN L.length 0 = 0 := by unfold secN; omega
      have h2 : i = 0 := by omega
      rw [h1, h2]; exact isOrd.irr _
    · have hs : secN L.length 0 = 1 := by unfold secN; omega
      by_cases h1 : i = 1
      · rw [hs, h1]; exact isOrd.irr _
      · by_cases h0 : i = 0
        · rw [hs, h0]; exact h 0 1 (by omega) (by omega) (by unfold Go.Abs.Edge; omega)
        · exact isOrd.le_trans (h i ((i / 2 - 1) / 2 * 2 + 1) hi (by omega) (by unfold Go.Abs.Edge; omega)) (ih ((i / 2 - 1) / 2 * 2 + 1) (by omega) (by omega))

theorem mem_get {L : List Ent} {z : Ent} (h : z ∈ L) : ∃ i, i < L.length ∧ z = getE L i := by
  obtain ⟨i, hi, h⟩ := List.getElem_of_mem h
  exact ⟨i, hi, by rw [getE_eq hi, h]⟩
theorem srt_min {L : List Ent} (h : StL L) (h0 : 0 < L.length) : sortL Ent.lt L = getE L 0 :: sortL Ent.lt (popL 0 L) := by
  have hp := pop_perm h0 0
  rw [atN_0, show 2 * 0 = 0 by rfl] at hp
  refine srt_unique isOrd (sortL_srt isOrd L) (List.pairwise_cons.2 ⟨fun z hz => ?_, sortL_srt isOrd _⟩) (((sortL_perm isOrd L).trans hp.symm).trans ((sortL_perm isOrd _).symm.cons _))
  obtain ⟨i, hi, rfl⟩ := mem_get (hp.mem_iff.1 (List.mem_cons_of_mem _ ((sortL_perm isOrd _).mem_iff.1 hz)))
  exact st_min h i hi
theorem srt_max {L : List Ent} (h : StL L) (h0 : 0 < L.length) : sortL Ent.lt L = sortL Ent.lt (popL 1 L) ++ [getE L (secN L.length 0)] := by
  have hp := pop_perm h0 1
  rw [atN_1] at hp
  refine srt_unique isOrd (sortL_srt isOrd L) (List.pairwise_append.2 ⟨sortL_srt isOrd _, List.pairwise_singleton _ _, fun z hz w hw => ?_⟩) (((sortL_perm isOrd L).trans hp.symm).trans ?_)
  · obtain rfl := List.mem_singleton.1 hw
    obtain ⟨i, hi, rfl⟩ := mem_get (hp.mem_iff.1 (List.mem_cons_of_mem _ ((sortL_perm isOrd _).mem_iff.1 hz)))
    exact st_max h i hi
  · exact (((sortL_perm isOrd _).symm.cons _).trans (List.perm_append_singleton _ _).symm)
theorem tip_min {L : List Ent} (h : StL L) : tipO L 0 = (sortL Ent.lt L).head? := by
  by_cases h0 : L.length = 0
  · rw [List.length_eq_zero_iff.1 h0]; rfl
  · rw [srt_min h (by omega), List.head?_cons]
    unfold tipO
    rw [atN_0, List.getElem?_eq_getElem (by omega), ← getE_eq]
theorem tip_max {L : List Ent} (h : StL L) : tipO L 1 = (sortL Ent.lt L).getLast? := by
  by_cases h0 : L.length = 0
  · rw [List.length_eq_zero_iff.1 h0]; rfl
  · rw [srt_max h (by omega), List.getLast?_concat]
    unfold tipO
    rw [atN_1, List.getElem?_eq_getElem (by unfold secN; omega), ← getE_eq]
end Go.Proofs.Ytjcncbejnplakaa
