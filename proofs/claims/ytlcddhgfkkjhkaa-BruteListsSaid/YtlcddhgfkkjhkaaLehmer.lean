/-
  PLAIN LAW: the order of a place and the place of an order; the digits of a number.
-/
import Derived.Test.YtlcddhgfkkjhkaaInst0
set_option linter.unusedSimpArgs false
set_option linter.unusedVariables false
namespace Go.Abs

/-- The product of the first numbers. -/
def fac : Nat → Nat
  | 0 => 1
  | n + 1 => (n + 1) * fac n
theorem fac_pos : ∀ n, 0 < fac n
  | 0 => by decide
  | n + 1 => Nat.mul_pos (Nat.succ_pos n) (fac_pos n)

/-- The order of a place. -/
def orderL : Nat → List Int → Nat → List Int
  | 0, _, _ => []
  | f + 1, left, k => match left with
    | [] => []
    | a :: l => (a :: l).getD (k / fac l.length) 0 :: orderL f ((a :: l).eraseIdx (k / fac l.length)) (k % fac l.length)
/-- The place of an order. -/
def placeL : List Int → List Int → Option Nat
  | _, [] => some 0
  | left, y :: x => if y ∈ left then (placeL (left.eraseIdx (left.idxOf y)) x).map (left.idxOf y * fac (left.length - 1) + ·) else none

theorem place_order : ∀ (f : Nat) {left : List Int} {k : Nat}, left.length = f → left.Nodup → k < fac left.length → placeL left (orderL f left k) = some k
  | 0, left, k, hf, _, hk => by
    rw [hf] at hk
    have : k = 0 := by simp [fac] at hk; exact hk
    subst this
    rfl
  | f + 1, [], k, hf, _, hk => by simp at hf
  | f + 1, a :: l, k, hf, hn, hk => by
    have hl : l.length = f := by simpa using hf
    have hp := fac_pos l.length
    have hq : k / fac l.length < (a :: l).length := by
      rw [Nat.div_lt_iff_lt_mul hp]; exact hk
    have hg : (a :: l).getD (k / fac l.length) 0 = (a :: l)[k / fac l.length] := by
      rw [List.getD_eq_getElem?_getD, List.getElem?_eq_getElem hq]; rfl
    have hi : (a :: l).idxOf ((a :: l)[k / fac l.length]) = k / fac l.length := List.Nodup.idxOf_getElem hn _ hq
    have he : ((a :: l).eraseIdx (k / fac l.length)).length = l.length := by rw [List.length_eraseIdx_of_lt hq]; simp
    have hs : ((a :: l).eraseIdx (k / fac l.length)).Sublist (a :: l) := List.eraseIdx_sublist _ _
    have ih := place_order f (left := (a :: l).eraseIdx (k / fac l.length)) (k := k % fac l.length) (by omega) (List.Nodup.sublist hs hn) (by rw [he]; exact Nat.mod_lt _ hp)
    show placeL (a :: l) ((a :: l).getD (k / fac l.length) 0 :: _) = _
    rw [hg]
    unfold placeL
    rw [if_pos (List.getElem_mem hq), hi, ih]
    simp only [Option.map_some, List.length_cons, Nat.add_sub_cancel]
    rw [Nat.mul_comm, Nat.div_add_mod]

theorem order_len : ∀ (f : Nat) {left : List Int} {k : Nat}, left.length = f → k < fac left.length → (orderL f left k).length = f
  | 0, left, k, hf, _ => rfl
  | f + 1, [], k, hf, _ => by simp at hf
  | f + 1, a :: l, k, hf, hk => by
    have hl : l.length = f := by simpa using hf
    have hp := fac_pos l.length
    have hq : k / fac l.length < (a :: l).length := by
      rw [Nat.div_lt_iff_lt_mul hp]; exact hk
    have he : ((a :: l).eraseIdx (k / fac l.length)).length = l.length := by rw [List.length_eraseIdx_of_lt hq]; simp
    show (orderL f _ _).length + 1 = _
    rw [order_len f (by omega) (by rw [he]; exact Nat.mod_lt _ hp)]

/-- The places of the digits that are set. -/
def chosenL : Nat → Nat → Nat → List Int
  | 0, _, _ => []
  | f + 1, k, m => if m = 0 then [] else (if m % 2 = 1 then [(k : Int)] else []) ++ chosenL f (k + 1) (m / 2)
/-- The number whose digits are some places. -/
def maskL (n : Int) : Int → List Int → Option Nat
  | _, [] => some 0
  | last, x :: l => if x ≤ last ∨ n ≤ x then none else (maskL n x l).map (2 ^ x.toNat + ·)

theorem mask_low {n : Int} : ∀ {l : List Int} {a b : Int} {r : Nat}, a ≤ b → maskL n b l = some r → maskL n a l = some r
  | [], a, b, r, h, hm => hm
  | x :: l, a, b, r, h, hm => by
    unfold maskL at hm ⊢
    split at hm
    · cases hm
    · rename_i hc
      rw [if_neg (by omega)]; exact hm
theorem mask_chosen {n : Nat} : ∀ (f : Nat) {k m : Nat} {last : Int}, last < k → m < 2 ^ f → m * 2 ^ k < 2 ^ n → maskL n last (chosenL f k m) = some (m * 2 ^ k)
  | 0, k, m, last, hl, hm, _ => by
    have : m = 0 := by simpa using hm
    subst this
    simp [chosenL, maskL]
  | f + 1, k, m, last, hl, hm, hn => by
    unfold chosenL
    by_cases h0 : m = 0
    · subst h0; simp [maskL]
    · rw [if_neg h0]
      have h2 : m / 2 * 2 ^ (k + 1) = (m - m % 2) * 2 ^ k := by
        rw [Nat.pow_succ, Nat.mul_comm (2 ^ k) 2, ← Nat.mul_assoc]; congr 1; omega
      have h3 : m / 2 * 2 ^ (k + 1) < 2 ^ n := by
        rw [h2]; exact Nat.lt_of_le_of_lt (Nat.mul_le_mul_right _ (by omega)) hn
      have h4 : m / 2 < 2 ^ f := by rw [Nat.pow_succ] at hm; omega
      by_cases h1 : m % 2 = 1
      · have ih := mask_chosen (n := n) f (k := k + 1) (m := m / 2) (last := k) (by omega) h4 h3
        rw [if_pos h1]
        have hkn : k < n := by
          apply (Nat.pow_lt_pow_iff_right (show 1 < 2 by omega)).1
          refine Nat.lt_of_le_of_lt ?_ hn
          exact Nat.le_mul_of_pos_left _ (by omega)
        show maskL n last ((k : Int) :: chosenL f (k + 1) (m / 2)) = _
        unfold maskL
        rw [if_neg (by omega), ih, h2, h1]
        simp only [Option.map_some, Int.toNat_natCast]
        congr 1
        rw [Nat.sub_mul, Nat.one_mul]
        have : 2 ^ k ≤ m * 2 ^ k := Nat.le_mul_of_pos_left _ (by omega)
        omega
      · have ih := mask_chosen (n := n) f (k := k + 1) (m := m / 2) (last := last) (by omega) h4 h3
        rw [if_neg h1, List.nil_append, ih, h2]
        congr 2; omega
theorem chosen_lt : ∀ (f : Nat) {k m : Nat}, ∀ x ∈ chosenL f k m, (k : Int) ≤ x ∧ x < k + f
  | 0, k, m, x, h => by simp [chosenL] at h
  | f + 1, k, m, x, h => by
    unfold chosenL at h
    split at h
    · simp at h
    · rcases List.mem_append.1 h with h | h
      · split at h
        · simp at h; omega
        · simp at h
      · have := chosen_lt f x h; omega
end Go.Abs
