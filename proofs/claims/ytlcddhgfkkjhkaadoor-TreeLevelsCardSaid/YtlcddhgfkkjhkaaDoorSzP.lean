/-
  PLAIN LAW: sums of products: how many states there are at most.
-/
import Derived.Test.YtlcddhgfkkjhkaaDoorRen
set_option linter.unusedSimpArgs false
set_option linter.unusedVariables false
namespace Go.Abs
open Go
def prd (f : Nat → Nat) : Nat → Nat
  | 0 => 1
  | j + 1 => prd f j * f j
def smF (f : Nat → Nat) : Nat → Nat
  | 0 => 1
  | j + 1 => smF f j + prd f (j + 1)
theorem smF_mono (f : Nat → Nat) {i j : Nat} (h : i ≤ j) : smF f i ≤ smF f j := by
  induction j with
  | zero => obtain rfl : i = 0 := by omega
            exact Nat.le_refl _
  | succ j ih =>
    by_cases hi : i = j + 1
    · subst hi; exact Nat.le_refl _
    · have := ih (by omega)
      simp only [smF]; omega
theorem prd_le_smF (f : Nat → Nat) (j : Nat) : prd f j ≤ smF f j := by
  cases j with
  | zero => simp [prd, smF]
  | succ j => simp only [smF]; omega
theorem prd_up {f : Nat → Nat} {c : Nat} : ∀ {j : Nat}, (∀ i, i < j → f i ≤ c) → prd f j ≤ c ^ j
  | 0, _ => by simp [prd]
  | j + 1, h => by
    rw [prd, Nat.pow_succ]
    exact Nat.mul_le_mul (prd_up fun i hi => h i (by omega)) (h j (by omega))
theorem prd_low {f : Nat → Nat} {c : Nat} : ∀ {j : Nat}, (∀ i, i < j → c ≤ f i) → c ^ j ≤ prd f j
  | 0, _ => by simp [prd]
  | j + 1, h => by
    rw [prd, Nat.pow_succ]
    exact Nat.mul_le_mul (prd_low fun i hi => h i (by omega)) (h j (by omega))
theorem smF_up {f : Nat → Nat} {c : Nat} : ∀ {j : Nat}, (∀ i, i < j → f i ≤ c) → smF f j ≤ (c + 1) ^ j
  | 0, _ => by simp [smF]
  | j + 1, h => by
    have h1 := smF_up (j := j) fun i hi => h i (by omega)
    have h2 := prd_up (j := j + 1) h
    have h3 : c ^ j ≤ (c + 1) ^ j := Nat.pow_le_pow_left (by omega) j
    rw [smF, Nat.pow_succ, Nat.mul_add, Nat.mul_one]
    rw [Nat.pow_succ] at h2
    have h4 := Nat.mul_le_mul_right c h3
    omega
theorem smF_two (j : Nat) : smF (fun _ => 2) j + 1 = prd (fun _ => 2) (j + 1) := by
  induction j with
  | zero => rfl
  | succ j ih =>
    have : prd (fun _ => 2) (j + 1 + 1) = prd (fun _ => 2) (j + 1) * 2 := rfl
    rw [smF, this]; omega
theorem smF_two_step (j : Nat) : smF (fun _ => 2) (j + 1) = 2 * smF (fun _ => 2) j + 1 := by
  have := smF_two j
  rw [smF]; omega
theorem smF_pos (f : Nat → Nat) (j : Nat) : 1 ≤ smF f j := by
  have := smF_mono f (Nat.zero_le j)
  exact this
def szF (k : Int) (n : Nat) : Nat → Nat := if k = 0 ∨ k = 3 then fun _ => 2 else fun j => n - j
def szT (k : Int) (n : Nat) : Nat := smF (szF k n) n
end Go.Abs
