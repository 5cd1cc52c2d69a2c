/-
  Plain law: the interval heap pushed to: it stands right, and holds one more.
-/
import Derived.Test.YtjcncbejnplakaaIlaw
set_option maxRecDepth 100000
set_option linter.unusedSimpArgs false
set_option linter.unusedVariables false
namespace Go.Proofs.Ytjcncbejnplakaa
open Go Go.Abs

theorem StF.congr {f g : Nat → Ent} {n : Nat} (h : StF Ent.lt f n) (he : ∀ i, i < n → g i = f i) : StF Ent.lt g n := fun i k hi hk hE => by rw [he i hi, he k hk]; exact h i k hi hk hE
theorem getE_append {L : List Ent} {x : Ent} {i : Nat} (h : i < L.length) : getE (L ++ [x]) i = getE L i := by unfold getE; rw [List.getElem?_append_left h]

theorem pushL_st {L : List Ent} (h : StL L) (x : Ent) : StL (pushL L x) := by
  have hf : StF Ent.lt (getE (L ++ [x])) L.length := StF.congr h fun i hi => getE_append hi
  have hlen : (L ++ [x]).length = L.length + 1 := by simp
  unfold pushL
  simp only
  generalize L ++ [x] = M at *
  generalize L.length = n at *
  split
  · rename_i hc
    obtain ⟨c1, c2⟩ := hc
    rw [ltAt_get (by omega) (by omega)] at c2
    refine rise0_st _ _ ?_
    rw [getE_swap (by omega) (by omega), swapL_length, hlen]
    exact push_turn isOrd hf c1 c2
  · rename_i hc
    split
    · rename_i hd
      obtain ⟨d1, d2, d3⟩ := hd
      have hu : aboveN n 1 < n := by unfold aboveN; omega
      rw [ltAt_get (by omega) (by omega)] at d3
      refine rise1_st _ _ ?_
      rw [hlen]
      exact push_hi isOrd hf d1 d2 d3
    · rename_i hd
      have hz : n % 2 = 0 ∨ n % 2 = 1 := by omega
      rcases hz with hz | hz
      · rw [hz]
        refine rise0_st _ _ ?_
        rw [hlen]
        refine push_lo hf hz ?_
        by_cases h2 : 2 ≤ n
        · have hu : aboveN n 1 < n := by unfold aboveN; omega
          right
          cases hx : (getE M ((n / 2 - 1) / 2 * 2 + 1)).lt (getE M n) with
          | false => rfl
          | true => exact absurd ⟨hz, h2, by rw [ltAt_get (by omega) (by omega)]; exact hx⟩ hd
        · left; omega
      · rw [hz]
        refine rise1_st _ _ ?_
        rw [hlen]
        refine push_mate isOrd hf hz ?_
        cases hx : (getE M n).lt (getE M (n - 1)) with
        | false => rfl
        | true => exact absurd ⟨hz, by rw [ltAt_get (by omega) (by omega)]; exact hx⟩ hc

theorem pushL_perm (L : List Ent) (x : Ent) : (pushL L x).Perm (x :: L) := by
  have h0 : (L ++ [x]).Perm (x :: L) := List.perm_append_comm
  unfold pushL
  simp only
  split
  · exact (riseL_perm _ _ _).trans ((swapL_perm _ _ _).trans h0)
  · split
    · exact (riseL_perm _ _ _).trans h0
    · exact (riseL_perm _ _ _).trans h0

theorem nil_st : StL [] := fun i k hi _ _ => by simp at hi
theorem foldl_push_st : ∀ (l L : List Ent), StL L → StL (l.foldl pushL L) ∧ (l.foldl pushL L).Perm (l ++ L)
  | [], L, h => ⟨h, .refl _⟩
  | x :: l, L, h => by
    obtain ⟨h1, h2⟩ := foldl_push_st l (pushL L x) (pushL_st h x)
    refine ⟨h1, h2.trans ?_⟩
    refine ((pushL_perm L x).append_left l).trans ?_
    exact List.perm_middle
theorem buildL_st (l : List Ent) : StL (buildL l) := (foldl_push_st l [] nil_st).1
theorem buildL_perm (l : List Ent) : (buildL l).Perm l := by have := (foldl_push_st l [] nil_st).2; rwa [List.append_nil] at this
end Go.Proofs.Ytjcncbejnplakaa
