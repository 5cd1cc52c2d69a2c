/-
  PLAIN LAW: a list of truths as words of 64 bits.
-/
import Derived.Test.YtakdkbdjjlmccaaDoorBits
set_option linter.unusedSimpArgs false
set_option linter.unusedVariables false
namespace Go.Abs
def nb : List Bool → Nat
  | [] => 0
  | b :: l => b.toNat + 2 * nb l
theorem nb_bit : ∀ (l : List Bool) (j : Nat), (nb l).testBit j = l.getD j false
  | [], j => by simp [nb]
  | b :: l, 0 => by cases b <;> simp [nb, Nat.testBit_zero] <;> omega
  | b :: l, j + 1 => by
    have : (b.toNat + 2 * nb l) / 2 = nb l := by cases b <;> simp <;> omega
    simp only [nb, Nat.testBit_succ, this, nb_bit l j, List.getD_cons_succ]
theorem nb_lt : ∀ (l : List Bool), nb l < 2 ^ l.length
  | [] => by simp [nb]
  | b :: l => by
    have := nb_lt l
    simp only [nb, List.length_cons, Nat.pow_succ]
    cases b <;> simp <;> omega
theorem nb_sum (n : Nat) : ∀ (l : List Bool), l.length ≤ n → (digs 2 n (nb l)).sum = l.count true := by
  induction n with
  | zero => intro l h; have : l = [] := by simpa using h
            subst this; simp [digs]
  | succ n ih =>
    intro l h
    cases l with
    | nil =>
      have := ih [] (by simp)
      simp [nb] at this
      simp [nb, digs, this]
    | cons b l =>
      have := ih l (by simpa using h)
      have e1 : (b.toNat + 2 * nb l) % 2 = b.toNat := by cases b <;> simp <;> omega
      have e2 : (b.toNat + 2 * nb l) / 2 = nb l := by cases b <;> simp <;> omega
      simp only [nb, digs, e1, e2, List.sum_cons, this]
      cases b <;> simp [Nat.add_comm]
theorem pow64 {i j : Nat} (h : i ≤ j) : 2 ^ i ≤ 2 ^ j := Nat.pow_le_pow_right (by omega) h
theorem pow64' {j : Nat} (h : 64 ≤ j) : 18446744073709551616 ≤ 2 ^ j := Nat.le_trans (by decide) (pow64 h)
def wb (B : List Bool) (k : Nat) : Nat := nb ((B.drop (64 * k)).take 64)
theorem wb_lt (B : List Bool) (k : Nat) : wb B k < 18446744073709551616 := by
  have h := nb_lt ((B.drop (64 * k)).take 64)
  have : ((B.drop (64 * k)).take 64).length ≤ 64 := by simp; omega
  exact Nat.lt_of_lt_of_le h (Nat.le_trans (pow64 this) (by decide))
theorem wb_bit (B : List Bool) (k j : Nat) (h : j < 64) : (wb B k).testBit j = B.getD (64 * k + j) false := by
  rw [wb, nb_bit]
  simp only [List.getD_eq_getElem?_getD]
  rw [List.getElem?_take_of_lt h, List.getElem?_drop]
theorem wb_count (B : List Bool) (k : Nat) : cntN (wb B k) = ((B.drop (64 * k)).take 64).count true := nb_sum 64 _ (by simp; omega)
theorem wb_high (B : List Bool) (k j : Nat) (h : 64 ≤ j) : (wb B k).testBit j = false :=
  Nat.testBit_lt_two_pow (Nat.lt_of_lt_of_le (wb_lt B k) (pow64' h) : wb B k < 2 ^ j)
theorem wb_eq {B : List Bool} {k x : Nat} (hx : x < 18446744073709551616) (h : ∀ j, j < 64 → x.testBit j = B.getD (64 * k + j) false) : x = wb B k := by
  apply Nat.eq_of_testBit_eq
  intro j
  by_cases hj : j < 64
  · rw [h j hj, wb_bit B k j hj]
  · rw [wb_high B k j (by omega)]
    exact Nat.testBit_lt_two_pow (Nat.lt_of_lt_of_le hx (pow64' (by omega)) : x < 2 ^ j)
def nw (n : Nat) : Nat := (n + 63) / 64
def words (B : List Bool) : List Nat := (List.range (nw B.length)).map (wb B)
theorem words_length (B : List Bool) : (words B).length = nw B.length := by simp [words]
theorem words_get (B : List Bool) (k : Nat) (h : k < nw B.length) : (words B)[k]? = some (wb B k) := by simp [words, h]
theorem words_ext {B : List Bool} {l : List Nat} (hl : l.length = nw B.length) (h : ∀ k (h : k < l.length), l[k] = wb B k) : l = words B := by
  apply List.ext_getElem (by rw [words_length, hl])
  intro k h1 h2
  rw [h k h1]
  simp [words]
theorem getD_set (B : List Bool) (i j : Nat) (b : Bool) (h : i < B.length) : (B.set i b).getD j false = if j = i then b else B.getD j false := by
  simp only [List.getD_eq_getElem?_getD, List.getElem?_set]
  by_cases hij : i = j
  · subst hij; simp [h]
  · simp [hij, Ne.symm hij]
theorem words_set (B : List Bool) (i x : Nat) (b : Bool) (h : i < B.length) (hx : x < 18446744073709551616)
    (hb : ∀ j, j < 64 → x.testBit j = if j = i % 64 then b else (wb B (i / 64)).testBit j) : (words B).set (i / 64) x = words (B.set i b) := by
  apply words_ext (by simp [words_length])
  intro k hk
  simp [words_length] at hk
  rw [List.getElem_set]
  split
  · rename_i hik
    subst hik
    refine wb_eq hx fun j hj => ?_
    rw [hb j hj, getD_set B i _ b h, wb_bit _ _ _ hj]
    have := Nat.div_add_mod i 64
    by_cases hj2 : j = i % 64
    · rw [if_pos hj2, if_pos (by omega)]
    · rw [if_neg hj2, if_neg (by omega)]
  · rename_i hik
    simp only [words, List.getElem_map, List.getElem_range]
    refine wb_eq (wb_lt _ _) fun j hj => ?_
    rw [getD_set B i _ b h, wb_bit _ _ _ hj, if_neg]
    intro hc
    apply hik
    omega
theorem count_take (B : List Bool) (k : Nat) : (B.take (64 * (k + 1))).count true = (B.take (64 * k)).count true + cntN (wb B k) := by
  rw [wb_count, Nat.mul_add, Nat.mul_one, List.take_add, List.count_append]
theorem lowest (x : Nat) (h : 0 < x) : ∃ t, x.testBit t = true ∧ ∀ j, j < t → x.testBit j = false := by
  have hex : ∃ t, x.testBit t = true := by
    apply Classical.byContradiction
    intro hc
    have : x = 0 := Nat.eq_of_testBit_eq fun i => by
      rw [Nat.zero_testBit]
      cases hb : x.testBit i with
      | false => rfl
      | true => exact absurd ⟨i, hb⟩ hc
    omega
  have key : ∀ n, (∃ t, t < n ∧ x.testBit t = true) → ∃ t, x.testBit t = true ∧ ∀ j, j < t → x.testBit j = false := by
    intro n
    induction n with
    | zero => rintro ⟨t, ht, _⟩; omega
    | succ n ih =>
      rintro ⟨t, ht, hb⟩
      by_cases hlt : ∃ t, t < n ∧ x.testBit t = true
      · exact ih hlt
      · refine ⟨t, hb, fun j hj => ?_⟩
        cases hjb : x.testBit j with
        | false => rfl
        | true => exact absurd ⟨j, by omega, hjb⟩ hlt
  obtain ⟨t, ht⟩ := hex
  exact key (t + 1) ⟨t, by omega, ht⟩
theorem and_neg (x t : Nat) (hx : x < 18446744073709551616) (h0 : 0 < x) (ht : x.testBit t = true) (hl : ∀ j, j < t → x.testBit j = false) : x &&& (18446744073709551616 - x) = 2 ^ t ∧ t < 64 := by
  have ht64 : t < 64 := by
    apply Classical.byContradiction
    intro hc
    rw [Nat.testBit_lt_two_pow (Nat.lt_of_lt_of_le hx (pow64' (by omega)))] at ht
    cases ht
  refine ⟨?_, ht64⟩
  have e : x &&& (18446744073709551616 - x) = (BitVec.ofNat 64 x &&& -(BitVec.ofNat 64 x)).toNat := by
    rw [BitVec.toNat_and, BitVec.toNat_neg, BitVec.toNat_ofNat, Nat.mod_eq_of_lt hx, Nat.mod_eq_of_lt (show 2 ^ 64 - x < 2 ^ 64 by omega)]
  rw [e]
  apply Nat.eq_of_testBit_eq
  intro j
  rw [← BitVec.getLsbD, BitVec.getLsbD_and, BitVec.getLsbD_neg, Nat.testBit_two_pow]
  by_cases hj : j < 64
  · have hbit : ∀ i, i < 64 → (BitVec.ofNat 64 x).getLsbD i = x.testBit i := fun i hi => by rw [BitVec.getLsbD_ofNat]; simp [hi]
    rw [hbit j hj]
    simp only [hj, decide_true, Bool.true_and]
    by_cases hjt : t = j
    · subst hjt
      have : ¬ ∃ i, i < t ∧ (BitVec.ofNat 64 x).getLsbD i = true := by
        rintro ⟨i, hi, hb⟩
        rw [hbit i (by omega), hl i hi] at hb; cases hb
      simp [this, ht]
    · by_cases hlt : j < t
      · simp [hl j hlt, hjt]
      · have : ∃ i, i < j ∧ (BitVec.ofNat 64 x).getLsbD i = true := ⟨t, by omega, by rw [hbit t ht64]; exact ht⟩
        simp [this, hjt]
  · have : t ≠ j := by omega
    rw [BitVec.getLsbD_ofNat]
    simp [hj, this]
end Go.Abs
