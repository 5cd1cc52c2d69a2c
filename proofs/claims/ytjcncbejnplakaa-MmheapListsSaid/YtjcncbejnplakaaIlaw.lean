/-
  Plain law: the interval heap as it is pushed to and popped: it stands right, and holds what it should.
-/
import Derived.Test.YtjcncbejnplakaaIheap7
import Derived.Test.YtjcncbejnplakaaIord2
import Derived.Test.YtjcncbejnplakaaIord4
import Derived.Test.YtjcncbejnplakaaEntOrd
set_option maxRecDepth 100000
set_option linter.unusedSimpArgs false
set_option linter.unusedVariables false
namespace Go.Proofs.Ytjcncbejnplakaa
open Go Go.Abs

def zeroE : Ent := ⟨0, 0, 0, 0⟩
def getE (L : List Ent) (i : Nat) : Ent := (L[i]?).getD zeroE
theorem getE_eq {L : List Ent} {i : Nat} (h : i < L.length) : getE L i = L[i] := by unfold getE; rw [List.getElem?_eq_getElem h]; rfl
/-- A heap that stands right. -/
def StL (L : List Ent) : Prop := StF Ent.lt (getE L) L.length
theorem ltAt_get {L : List Ent} {i k : Nat} (hi : i < L.length) (hk : k < L.length) : ltAt L i k = (getE L i).lt (getE L k) := by rw [ltAt_eq hi hk, getE_eq hi, getE_eq hk]

theorem swapL_eq {L : List Ent} {i k : Nat} (hi : i < L.length) (hk : k < L.length) : swapL L i k = (L.set i L[k]).set k L[i] := by
  unfold swapL; rw [List.getElem?_eq_getElem hi, List.getElem?_eq_getElem hk]
theorem getE_swap {L : List Ent} {i k : Nat} (hi : i < L.length) (hk : k < L.length) : getE (swapL L i k) = sw (getE L) i k := by
  funext m
  unfold sw
  rw [swapL_eq hi hk, getE_eq hi, getE_eq hk]
  unfold getE
  rw [List.getElem?_set, List.getElem?_set]
  by_cases h1 : m = i
  · subst h1
    by_cases h2 : k = m
    · subst h2; simp [hi]
    · simp [h2, hi]
  · by_cases h2 : m = k
    · subst h2; simp [h1, hk]
    · simp [h1, h2, Ne.symm h1, Ne.symm h2]
theorem swapL_perm (L : List Ent) (i k : Nat) : (swapL L i k).Perm L := by
  by_cases h : i < L.length ∧ k < L.length
  · rw [swapL_eq h.1 h.2]
    exact List.set_set_perm h.1 h.2
  · unfold swapL
    split
    · rename_i a b h1 h2
      have h1' := (List.getElem?_eq_some_iff.1 h1).1
      have h2' := (List.getElem?_eq_some_iff.1 h2).1
      omega
    · exact .refl _

theorem riseL_perm (e : Nat) : ∀ (i : Nat) (L : List Ent), (riseL e i L).Perm L := by
  intro i
  induction i using Nat.strongRecOn with
  | ind i ih =>
    intro L
    rw [riseL]
    split
    · rename_i h
      simp only
      split
      · split
        · exact .refl _
        · exact (ih _ (by omega) _).trans (swapL_perm _ _ _)
      · exact .refl _
    · exact .refl _

theorem rise0_st : ∀ (j : Nat) (L : List Ent), Rise0 Ent.lt (getE L) L.length j → StL (riseL 0 j L) := by
  intro j
  induction j using Nat.strongRecOn with
  | ind j ih =>
    intro L h
    have hj := h.1
    rw [riseL]
    by_cases h2 : 2 ≤ j
    · rw [dif_pos ⟨h2, by omega⟩]
      obtain ⟨up, hup⟩ : ∃ up, up = (j / 2 - 1) / 2 * 2 := ⟨_, rfl⟩
      have hul : up < L.length := by omega
      simp only [Nat.add_zero, ← hup, List.getElem?_eq_getElem hj, List.getElem?_eq_getElem hul]
      rw [← getE_eq hj, ← getE_eq hul]
      cases hx : (getE L j).lt (getE L up) with
      | false =>
        rw [if_pos (by simp)]
        exact h.done (.inr (by rw [← hup]; exact hx))
      | true =>
        rw [if_neg (by simp)]
        refine ih up (by omega) _ ?_
        rw [getE_swap hj hul, swapL_length]
        exact h.step isOrd h2 hup hx
    · rw [dif_neg (by omega)]
      exact h.done (.inl (by omega))
theorem rise1_st : ∀ (j : Nat) (L : List Ent), Rise1 Ent.lt (getE L) L.length j → StL (riseL 1 j L) := by
  intro j
  induction j using Nat.strongRecOn with
  | ind j ih =>
    intro L h
    have hj := h.1
    rw [riseL]
    by_cases h2 : 2 ≤ j
    · rw [dif_pos ⟨h2, by omega⟩]
      obtain ⟨up, hup⟩ : ∃ up, up = (j / 2 - 1) / 2 * 2 + 1 := ⟨_, rfl⟩
      have hul : up < L.length := by omega
      simp only [← hup, List.getElem?_eq_getElem hj, List.getElem?_eq_getElem hul]
      rw [← getE_eq hj, ← getE_eq hul]
      cases hx : (getE L up).lt (getE L j) with
      | false =>
        rw [if_pos (by simp)]
        exact h.done (.inr (by rw [← hup]; exact hx))
      | true =>
        rw [if_neg (by simp)]
        refine ih up (by omega) _ ?_
        rw [getE_swap hj hul, swapL_length]
        exact h.step isOrd h2 hup hx
    · rw [dif_neg (by omega)]
      exact h.done (.inl (by omega))
end Go.Proofs.Ytjcncbejnplakaa
