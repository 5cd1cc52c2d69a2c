/-
  THE ABSTRACT LAYER (35): slices of numbers and of truths among the arguments.
-/
import Derived.Test.YtjcncbejnplakaaA34
set_option linter.unusedSimpArgs false
set_option linter.unusedVariables false
namespace Go.Abs
open Go

theorem wf_i64 {n : Int} (h : (Lit.int .i64 n).wf = true) : -9223372036854775808 ≤ n ∧ n ≤ 9223372036854775807 := by
  simpa [Lit.wf, IntKind.min, IntKind.max, IntKind.signed, IntKind.bits] using h

theorem ints_of {H : AH} {k : IntKind} : ∀ (n : Nat) (cells : List Value), cells.length = n * 1 → (∀ i, i < n → Is H (.int k) ((cells.drop (i * 1)).take 1)) → ∃ l : List Int, cells = l.map (.int k) ∧ ∀ z ∈ l, (Lit.int k z).wf = true
  | 0, cells, hl, _ => ⟨[], by simpa using hl, by simp⟩
  | n + 1, [], hl, _ => by simp at hl
  | n + 1, c :: cells, hl, h => by
    obtain ⟨l, h1, h2⟩ := ints_of n cells (by simp at hl ⊢; omega) fun i hi => by
      have := h (i + 1) (by omega)
      rw [show (i + 1) * 1 = i * 1 + 1 by omega, List.drop_succ_cons] at this
      exact this
    obtain ⟨z, e, hz⟩ := h 0 (by omega)
    have e' : c = .int k z := by simpa using e
    exact ⟨z :: l, by simp [e', h1], by simpa using ⟨hz, h2⟩⟩
theorem bools_of {H : AH} : ∀ (n : Nat) (cells : List Value), cells.length = n * 1 → (∀ i, i < n → Is H .bool ((cells.drop (i * 1)).take 1)) → ∃ l : List Bool, cells = l.map .bool
  | 0, cells, hl, _ => ⟨[], by simpa using hl⟩
  | n + 1, [], hl, _ => by simp at hl
  | n + 1, c :: cells, hl, h => by
    obtain ⟨l, h1⟩ := bools_of n cells (by simp at hl ⊢; omega) fun i hi => by
      have := h (i + 1) (by omega)
      rw [show (i + 1) * 1 = i * 1 + 1 by omega, List.drop_succ_cons] at this
      exact this
    obtain ⟨z, e⟩ := h 0 (by omega)
    have e' : c = .bool z := by simpa using e
    exact ⟨z :: l, by simp [e', h1]⟩

theorem IsArg.ints_inv {H : AH} {k : IntKind} {v : Value} (h : IsArg H (.slice (.int k) 1) v) : ∃ n, ∃ l : List Int, Rd H 1 v n (l.map (.int k)) ∧ n ≤ 9223372036854775807 ∧ ∀ z ∈ l, (Lit.int k z).wf = true := by
  obtain ⟨n, cells, hrd, hn, hall⟩ := h.slice_inv
  obtain ⟨l, rfl, hz⟩ := ints_of n cells hrd.len hall
  exact ⟨n, l, hrd, hn, hz⟩
theorem IsArg.bools_inv {H : AH} {v : Value} (h : IsArg H (.slice .bool 1) v) : ∃ n, ∃ l : List Bool, Rd H 1 v n (l.map .bool) ∧ n ≤ 9223372036854775807 := by
  obtain ⟨n, cells, hrd, hn, hall⟩ := h.slice_inv
  obtain ⟨l, rfl⟩ := bools_of n cells hrd.len hall
  exact ⟨n, l, hrd, hn⟩
/-- Two numbers in an array. -/
theorem IsArg.two_inv {H : AH} {k : IntKind} {v : Value} (h : IsArg H (.cons 1 (.int k) (.cons 1 (.int k) .nil)) v) : ∃ x y, v = .agg #[.int k x, .int k y] ∧ (Lit.int k x).wf = true ∧ (Lit.int k y).wf = true := by
  unfold IsArg at h
  rw [if_neg (by simp [Sh.single])] at h
  obtain ⟨⟨cs⟩, rfl, h1, ⟨x, e1, w1⟩, h2, ⟨y, e2, w2⟩, h3⟩ := h
  match cs, e1, e2, h3 with
  | [a, b], e1, e2, _ =>
    simp at e1 e2
    subst e1 e2
    exact ⟨x, y, rfl, w1, w2⟩
  | [], e1, _, _ => simp at e1
  | [_], _, e2, _ => simp at e2
  | _ :: _ :: _ :: _, _, _, h3 => simp [Is] at h3
end Go.Abs
