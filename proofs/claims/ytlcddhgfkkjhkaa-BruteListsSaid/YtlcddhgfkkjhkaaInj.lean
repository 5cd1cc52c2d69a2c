/-
  PLAIN LAW: what has a place is the order of that place; what are digits of a number are that number's.
-/
import Derived.Test.YtlcddhgfkkjhkaaLehmer
set_option linter.unusedSimpArgs false
set_option linter.unusedVariables false
namespace Go.Abs
theorem place_inj : ∀ {X left : List Int} {k : Nat}, X.length = left.length → placeL left X = some k → k < fac left.length ∧ orderL left.length left k = X
  | [], left, k, h, hp => by
    obtain rfl : left = [] := List.eq_nil_of_length_eq_zero h.symm
    have : 0 = k := by simpa [placeL] using hp
    subst this
    exact ⟨by decide, rfl⟩
  | y :: X, [], k, h, hp => by simp at h
  | y :: X, a :: l, k, h, hp => by
    have hX : X.length = l.length := by simpa using h
    unfold placeL at hp
    by_cases hy : y ∈ a :: l
    · rw [if_pos hy] at hp
      have hi := List.idxOf_lt_length_of_mem hy
      have hgi : (a :: l)[(a :: l).idxOf y] = y := List.getElem_idxOf hi
      generalize (a :: l).idxOf y = i at *
      obtain ⟨k', e1, e2⟩ : ∃ k', placeL ((a :: l).eraseIdx i) X = some k' ∧ i * fac l.length + k' = k := by
        cases hq : placeL ((a :: l).eraseIdx i) X with
        | none => rw [hq] at hp; simp at hp
        | some k' => rw [hq] at hp; exact ⟨k', rfl, by simpa using hp⟩
      have hel : ((a :: l).eraseIdx i).length = l.length := by rw [List.length_eraseIdx_of_lt hi]; simp
      obtain ⟨q1, q2⟩ := place_inj (left := (a :: l).eraseIdx i) (by rw [hel, hX]) e1
      rw [hel] at q1 q2
      have hp' := fac_pos l.length
      have hd : k / fac l.length = i := by rw [← e2, Nat.mul_comm, Nat.mul_add_div hp', Nat.div_eq_of_lt q1, Nat.add_zero]
      have hm : k % fac l.length = k' := by rw [← e2, Nat.mul_comm, Nat.mul_add_mod, Nat.mod_eq_of_lt q1]
      constructor
      · show k < (l.length + 1) * fac l.length
        have h1 : i * fac l.length + k' < i * fac l.length + fac l.length := by omega
        rw [← Nat.succ_mul] at h1
        have h2 : (i + 1) * fac l.length ≤ (l.length + 1) * fac l.length := Nat.mul_le_mul_right _ (by have := hi; simp at this; omega)
        have h3 : i.succ * fac l.length = (i + 1) * fac l.length := rfl
        omega
      · show (a :: l).getD (k / fac l.length) 0 :: orderL l.length ((a :: l).eraseIdx (k / fac l.length)) (k % fac l.length) = _
        rw [hd, hm, q2, List.getD_eq_getElem?_getD, List.getElem?_eq_getElem hi]
        simp [hgi]
    · rw [if_neg hy] at hp; cases hp

theorem chosen_zero (f k : Nat) : chosenL f k 0 = [] := by cases f <;> rfl
theorem mask_inj {n : Nat} : ∀ (f : Nat) {k : Nat} {l : List Int} {r : Nat}, n ≤ k + f → maskL n ((k : Int) - 1) l = some r → ∃ m, r = m * 2 ^ k ∧ m < 2 ^ f ∧ chosenL f k m = l
  | f, k, [], r, _, h => by
    have : 0 = r := by simpa [maskL] using h
    subst this
    exact ⟨0, by simp, Nat.two_pow_pos f, chosen_zero f k⟩
  | 0, k, x :: l, r, hn, h => by
    unfold maskL at h
    rw [if_pos (by omega)] at h; cases h
  | f + 1, k, x :: l, r, hn, h => by
    have h0 := h
    unfold maskL at h
    by_cases hx : x ≤ (k : Int) - 1 ∨ (n : Int) ≤ x
    · rw [if_pos hx] at h; cases h
    · rw [if_neg hx] at h
      have hk1 : ((k + 1 : Nat) : Int) - 1 = k := by omega
      by_cases hxk : x = k
      · subst hxk
        obtain ⟨r', e1, e2⟩ : ∃ r', maskL n k l = some r' ∧ 2 ^ k + r' = r := by
          cases hq : maskL n k l with
          | none => rw [hq] at h; simp at h
          | some r' => rw [hq] at h; exact ⟨r', rfl, by simpa using h⟩
        obtain ⟨m, q1, q2, q3⟩ := mask_inj (n := n) f (k := k + 1) (l := l) (r := r') (by omega) (by rw [hk1]; exact e1)
        refine ⟨2 * m + 1, ?_, by rw [Nat.pow_succ]; omega, ?_⟩
        · rw [← e2, q1, Nat.pow_succ, Nat.add_mul, Nat.one_mul, Nat.mul_comm 2 m, Nat.mul_assoc, Nat.mul_comm 2]; omega
        · show (if 2 * m + 1 = 0 then [] else (if (2 * m + 1) % 2 = 1 then [(k : Int)] else []) ++ chosenL f (k + 1) ((2 * m + 1) / 2)) = _
          rw [if_neg (by omega), if_pos (by omega), show (2 * m + 1) / 2 = m by omega, q3]; rfl
      · have h1 : maskL n (((k + 1 : Nat) : Int) - 1) (x :: l) = some r := by
          rw [hk1]; unfold maskL; rw [if_neg (by omega)]; exact h
        obtain ⟨m, q1, q2, q3⟩ := mask_inj (n := n) f (k := k + 1) (l := x :: l) (r := r) (by omega) h1
        have hm0 : m ≠ 0 := fun e => by subst e; rw [chosen_zero] at q3; cases q3
        refine ⟨2 * m, ?_, by rw [Nat.pow_succ]; omega, ?_⟩
        · rw [q1, Nat.pow_succ, Nat.mul_comm 2 m, Nat.mul_assoc, Nat.mul_comm 2]
        · show (if 2 * m = 0 then [] else (if (2 * m) % 2 = 1 then [(k : Int)] else []) ++ chosenL f (k + 1) ((2 * m) / 2)) = _
          rw [if_neg (by omega), if_neg (by omega), show (2 * m) / 2 = m by omega, q3]; rfl
end Go.Abs
