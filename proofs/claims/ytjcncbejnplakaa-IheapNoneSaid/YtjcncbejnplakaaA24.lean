/-
  THE ABSTRACT LAYER (24): loops that count up; slices of numbers.
-/
import Derived.Test.YtjcncbejnplakaaA22
set_option linter.unusedSimpArgs false
set_option linter.unusedVariables false
namespace Go.Abs
open Go

/-- What is asked behind round k of N. -/
def roundsK (k N : Nat) (I : Nat → Env → AH → Prop) (Q : AExit → Env → AH → Prop) (e : AExit) (env : Env) (H : AH) : Prop :=
  match e with
  | .normal => k < N ∧ I (k + 1) env H
  | e => Q e env H
section
variable {P : Program} {n : Nat} {k N : Nat} {I : Nat → Env → AH → Prop} {Q : AExit → Env → AH → Prop} {env : Env} {H : AH}
@[simp] theorem roundsK_normal : roundsK k N I Q .normal env H = (k < N ∧ I (k + 1) env H) := Eq.trans rfl rfl
@[simp] theorem roundsK_exit {i : Nat} : roundsK k N I Q (.exit i) env H = Q (.exit i) env H := Eq.trans rfl rfl
@[simp] theorem roundsK_ret : roundsK k N I Q .ret env H = Q .ret env H := Eq.trans rfl rfl

/-- A loop that counts up to N. -/
theorem loop_upto {body : ACode} (N : Nat) (I : Nat → Env → AH → Prop) (h : I 0 env H)
    (hs : ∀ k env H, k ≤ N → I k env H → wpC P n body (roundsK k N I Q) env H) : wpC P n (.loop body) Q env H := by
  refine loop_rule (fun j env H => ∃ k, k ≤ N ∧ j = N - k ∧ I k env H) ?_ (j := N) ⟨0, by omega, by omega, h⟩
  rintro j env H ⟨k, hk, rfl, hI⟩
  refine wpC_mono body (fun e env H h => ?_) (hs k env H hk hI)
  cases e with
  | normal => exact ⟨N - (k + 1), by have := h.1; omega, k + 1, h.1, rfl, h.2⟩
  | exit i => exact h
  | ret => exact h
end

/-- The numbers of a slice, one by one. -/
theorem Own.ints {H : AH} {elem n : Nat} {a : Option Addr} {c : Nat} {ik : IntKind} {l : List Int} {S : List Nat} (h : Own H elem 1 (.slice a n c) n (l.map (.int ik)) S) (hn : 0 < n) :
    ∃ b off sp cs, a = some ⟨b, off, sp⟩ ∧ S = [b] ∧ H.blk b = some (.row cs elem true) ∧ H.cells b = some cs ∧ (sp = none ∨ sp = some 1) ∧ l.length = n ∧ n ≤ c ∧ ∀ k (hk : k < l.length), cs[off + k]? = some (.int ik l[k]) := by
  have hl := h.len
  simp at hl
  obtain ⟨b, off, sp, cap, cs, he, rfl, q1, q2, q3, q4, q5, q6, q7⟩ := h.at hn
  cases he
  refine ⟨b, off, sp, cs, rfl, rfl, q1, q2, q5, hl, q4, fun k hk => ?_⟩
  rw [q6 k (by omega)]
  simp [hk]

theorem Own.n_eq {H : AH} {elem n : Nat} {v : Value} {ik : IntKind} {l : List Int} {S : List Nat} (h : Own H elem 1 v n (l.map (.int ik)) S) : n = l.length := by
  have := h.len; simp at this; omega

end Go.Abs
