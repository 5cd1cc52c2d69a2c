/-
  THE ABSTRACT LAYER (25): slices that are only read.
-/
import Derived.Test.YtjcncbejnplakaaA24
set_option linter.unusedSimpArgs false
set_option linter.unusedVariables false
namespace Go.Abs
open Go

/-- A slice that may be read: nil, or cells of a block. -/
def Rd (H : AH) (sz : Nat) (v : Value) (n : Nat) (cells : List Value) : Prop :=
  (v = .slice none 0 0 ∧ n = 0 ∧ cells = []) ∨ (v = .slice (some ⟨0, 0, none⟩) 0 0 ∧ n = 0 ∧ cells = []) ∨ ∃ b off cap cs, v = .slice (some ⟨b, off, none⟩) n cap ∧ n ≤ cap ∧ H.cells b = some cs ∧ cut cs off (n * sz) = some cells

theorem Rd.nil {H : AH} {sz : Nat} : Rd H sz (.slice none 0 0) 0 [] := .inl ⟨rfl, rfl, rfl⟩
theorem Rd.slice {H : AH} {sz n : Nat} {v : Value} {cells : List Value} (h : Rd H sz v n cells) : ∃ a c, v = .slice a n c := by
  rcases h with ⟨rfl, rfl, _⟩ | ⟨rfl, rfl, _⟩ | ⟨b, off, cap, cs, rfl, _⟩
  · exact ⟨_, _, rfl⟩
  · exact ⟨_, _, rfl⟩
  · exact ⟨_, _, rfl⟩
theorem Rd.len {H : AH} {sz n : Nat} {v : Value} {cells : List Value} (h : Rd H sz v n cells) : cells.length = n * sz := by
  rcases h with ⟨rfl, rfl, rfl⟩ | ⟨rfl, rfl, rfl⟩ | ⟨b, off, cap, cs, rfl, _, _, h⟩
  · simp
  · simp
  · exact (cut_spec h).2.2.1
theorem Rd.kept {H H' : AH} {sz n : Nat} {v : Value} {cells : List Value} (h : Rd H sz v n cells) (hw : WF H) (hk : Keep [] H H') : Rd H' sz v n cells := by
  rcases h with h | h | ⟨b, off, cap, cs, h1, h2, h3, h4⟩
  · exact .inl h
  · exact .inr (.inl h)
  · refine .inr <| .inr ⟨b, off, cap, cs, h1, h2, ?_, h4⟩
    have : H.blk b ≠ none := fun hn => by simp [AH.cells, hn] at h3
    obtain ⟨B, hB⟩ := Option.ne_none_iff_exists'.1 this
    simp only [AH.cells, hk.blk b (hw.lt hB) (by simp)]
    exact h3
theorem Rd.at {H : AH} {sz n : Nat} {v : Value} {cells : List Value} (h : Rd H sz v n cells) (hn : 0 < n) :
    ∃ b off cap cs, v = .slice (some ⟨b, off, none⟩) n cap ∧ n ≤ cap ∧ H.cells b = some cs ∧ off + n * sz ≤ cs.length ∧ (∀ k, k < n * sz → cs[off + k]? = cells[k]?) ∧ cut cs off (n * sz) = some cells := by
  rcases h with ⟨_, h, _⟩ | ⟨_, h, _⟩ | ⟨b, off, cap, cs, h1, h2, h3, h4⟩
  · omega
  · omega
  · obtain ⟨q1, q2, q3, q4⟩ := cut_spec h4
    exact ⟨b, off, cap, cs, h1, h2, h3, q1, q4, h4⟩
theorem Own.rd {H : AH} {elem sz n : Nat} {a : Option Addr} {c : Nat} {cells : List Value} {S : List Nat} (h : Own H elem sz (.slice a n c) n cells S) (hs : ∀ x, a = some x → x.spot = none) : Rd H sz (.slice a n c) n cells := by
  rcases h with ⟨h0, rfl, rfl, _⟩ | ⟨b, off, sp, cap, cs, h0, h1, h2, h3, h4, h5, h6⟩
  · cases h0; exact .nil
  · cases h0
    have := hs _ rfl
    simp only at this
    subst this
    have hl := Nat.mul_le_mul_right sz h4
    exact .inr <| .inr ⟨b, off, c, cs, rfl, h4, AH.cells_of h2, by rw [cut_eq (by omega), h5]⟩
theorem Rd.first {H : AH} {sz n b off cap : Nat} {cells : List Value} (h : Rd H sz (.slice (some ⟨b, off, none⟩) n cap) n cells) {k : Nat} (hk : k ≤ n) : Rd H sz (.slice (some ⟨b, off, none⟩) k cap) k (cells.take (k * sz)) := by
  rcases h with ⟨h, _⟩ | ⟨h, rfl, rfl⟩ | ⟨b', off', cap', cs, h1, h2, h3, h4⟩
  · cases h
  · cases h
    obtain rfl : k = 0 := by omega
    exact .inr (.inl ⟨rfl, rfl, by simp⟩)
  · cases h1
    obtain ⟨q1, q2, q3, q4⟩ := cut_spec h4
    have hm := Nat.mul_le_mul_right sz hk
    refine .inr <| .inr ⟨b, off, cap, cs, rfl, by omega, h3, ?_⟩
    rw [cut_eq (by omega), q2, List.take_take, Nat.min_eq_left hm]

end Go.Abs
