/-
  THE ABSTRACT LAYER (31): slices that are only read, wherever they were made.
-/
import Derived.Test.YtjcncbejnplakaaA30
set_option linter.unusedSimpArgs false
set_option linter.unusedVariables false
namespace Go.Abs
open Go

theorem cells_lt {H : AH} (hw : WF H) {b : Nat} {cs : List Value} (h : H.cells b = some cs) : b < H.next := by
  obtain ⟨e, wr, hb⟩ := cells_blk h
  exact hw.lt hb

/-- Blocks as before, or new ones. -/
def up (p : Nat → Prop) (n : Nat) : Nat → Prop := fun b => p b ∨ n ≤ b

/-- A slice that may be read: empty, or cells of a block (one of which p holds). -/
def Vw (p : Nat → Prop) (H : AH) (sz : Nat) (v : Value) (n : Nat) (cells : List Value) : Prop :=
  cells.length = n * sz ∧ ((n = 0 ∧ ∃ a c, v = .slice a 0 c ∧ (a = none → c = 0)) ∨
    ∃ b off sp cap cs, v = .slice (some ⟨b, off, sp⟩) n cap ∧ n ≤ cap ∧ (sp = none ∨ sp = some sz) ∧ H.cells b = some cs ∧ cut cs off (n * sz) = some cells ∧ p b)

theorem Vw.len {p : Nat → Prop} {H : AH} {sz n : Nat} {v : Value} {cells : List Value} (h : Vw p H sz v n cells) : cells.length = n * sz := h.1
theorem Vw.slice {p : Nat → Prop} {H : AH} {sz n : Nat} {v : Value} {cells : List Value} (h : Vw p H sz v n cells) : ∃ a c, v = .slice a n c := by
  rcases h.2 with ⟨rfl, a, c, rfl, _⟩ | ⟨b, off, sp, cap, cs, rfl, _⟩
  · exact ⟨_, _, rfl⟩
  · exact ⟨_, _, rfl⟩
theorem Vw.kept {p : Nat → Prop} {H H' : AH} {sz n : Nat} {v : Value} {cells : List Value} (h : Vw p H sz v n cells) (hw : WF H) (hk : Keep [] H H') : Vw p H' sz v n cells := by
  refine ⟨h.1, ?_⟩
  rcases h.2 with h | ⟨b, off, sp, cap, cs, h1, h2, h3, h4, h5, hp⟩
  · exact .inl h
  · refine .inr ⟨b, off, sp, cap, cs, h1, h2, h3, ?_, h5, hp⟩
    have : H.blk b ≠ none := fun hn => by simp [AH.cells, hn] at h4
    obtain ⟨B, hB⟩ := Option.ne_none_iff_exists'.1 this
    simp only [AH.cells, hk.blk b (hw.lt hB) (by simp)]
    exact h4
theorem Vw.grow {p : Nat → Prop} {H H' : AH} {sz n : Nat} {v : Value} {cells : List Value} (h : Vw p H sz v n cells) (hk : Grow H H') : Vw p H' sz v n cells := by
  refine ⟨h.1, ?_⟩
  rcases h.2 with h | ⟨b, off, sp, cap, cs, h1, h2, h3, h4, h5, hp⟩
  · exact .inl h
  · exact .inr ⟨b, off, sp, cap, cs, h1, h2, h3, hk.cells h4, h5, hp⟩
theorem Vw.at {p : Nat → Prop} {H : AH} {sz n : Nat} {v : Value} {cells : List Value} (h : Vw p H sz v n cells) (hn : 0 < n) :
    ∃ b off sp cap cs, v = .slice (some ⟨b, off, sp⟩) n cap ∧ n ≤ cap ∧ (sp = none ∨ sp = some sz) ∧ H.cells b = some cs ∧ off + n * sz ≤ cs.length ∧ (∀ k, k < n * sz → cs[off + k]? = cells[k]?) ∧ cut cs off (n * sz) = some cells ∧ p b := by
  rcases h.2 with ⟨h, _⟩ | ⟨b, off, sp, cap, cs, h1, h2, h3, h4, h5, hp⟩
  · omega
  · obtain ⟨q1, q2, q3, q4⟩ := cut_spec h5
    exact ⟨b, off, sp, cap, cs, h1, h2, h3, h4, q1, q4, h5, hp⟩
theorem Vw.elems {p : Nat → Prop} {H : AH} {sz n : Nat} {v : Value} {cells : List Value} (h : Vw p H sz v n cells) : elemsA H sz v = some cells := by
  rcases h with ⟨hl, ⟨rfl, a, c, rfl, ha⟩ | ⟨b, off, sp, cap, cs, rfl, h2, h3, h4, h5, _⟩⟩
  · have : cells = [] := by simpa using hl
    subst this
    cases a with
    | none => rw [ha rfl]; rfl
    | some a => obtain ⟨b, o, s⟩ := a; simp [elemsA]
  · by_cases hn : n = 0
    · subst hn
      have : cells = [] := by simpa using hl
      subst this
      simp [elemsA]
    · simp [elemsA, hn, h4, h5]
theorem Own.vw {p : Nat → Prop} {H : AH} {elem sz n : Nat} {v : Value} {cells : List Value} {S : List Nat} (h : Own H elem sz v n cells S) (hp : ∀ b ∈ S, p b) : Vw p H sz v n cells := by
  refine ⟨h.len, ?_⟩
  rcases h with ⟨rfl, rfl, rfl, _⟩ | ⟨b, off, sp, cap, cs, rfl, h1, h2, h3, h4, h5, h6⟩
  · exact .inl ⟨rfl, _, _, rfl, fun _ => rfl⟩
  · have hl := Nat.mul_le_mul_right sz h4
    exact .inr ⟨b, off, sp, cap, cs, rfl, h4, h6, AH.cells_of h2, by rw [cut_eq (by omega), h5], hp b (by simp [h1])⟩
theorem Rd.vw {p : Nat → Prop} {H : AH} {sz n : Nat} {v : Value} {cells : List Value} (h : Rd H sz v n cells) (hw : WF H) (hp : ∀ b, b < H.next → p b) : Vw p H sz v n cells := by
  refine ⟨h.len, ?_⟩
  rcases h with ⟨rfl, rfl, rfl⟩ | ⟨rfl, rfl, rfl⟩ | ⟨b, off, cap, cs, rfl, h1, h2, h3⟩
  · exact .inl ⟨rfl, _, _, rfl, fun _ => rfl⟩
  · exact .inl ⟨rfl, _, _, rfl, fun h => by cases h⟩
  · exact .inr ⟨b, off, none, cap, cs, rfl, h1, .inl rfl, h2, h3, hp b (cells_lt hw h2)⟩
theorem Vw.nil {p : Nat → Prop} {H : AH} {sz : Nat} : Vw p H sz (.slice none 0 0) 0 [] := ⟨by simp, .inl ⟨rfl, _, _, rfl, fun _ => rfl⟩⟩
/-- The first ones. -/
theorem Vw.first {p : Nat → Prop} {H : AH} {sz n b off cap : Nat} {sp : Option Nat} {cells : List Value} (h : Vw p H sz (.slice (some ⟨b, off, sp⟩) n cap) n cells) {k : Nat} (hk : k ≤ n) (c : Nat) (hc : k ≤ c) : Vw p H sz (.slice (some ⟨b, off, sp⟩) k c) k (cells.take (k * sz)) := by
  have hl := h.1
  have hm := Nat.mul_le_mul_right sz hk
  refine ⟨by simp; omega, ?_⟩
  rcases h.2 with ⟨rfl, _⟩ | ⟨b', off', sp', cap', cs, h1, h2, h3, h4, h5, hp⟩
  · exact .inl ⟨by omega, _, _, by rw [show k = 0 by omega], fun h => by cases h⟩
  · cases h1
    obtain ⟨q1, q2, q3, q4⟩ := cut_spec h5
    refine .inr ⟨b, off, sp, c, cs, rfl, hc, h3, h4, ?_, hp⟩
    rw [cut_eq (by omega), q2, List.take_take, Nat.min_eq_left hm]

/-- Cells of a read slice: their bounds. -/
theorem Vw.agg {p : Nat → Prop} {H : AH} {sz n : Nat} {v : Value} {cells : List Value} (h : Vw p H sz v n cells) : one v = true ∧ cellsOf v = some [v] := by
  obtain ⟨a, c, rfl⟩ := h.slice
  exact ⟨rfl, rfl⟩

theorem Vw.mono {p q : Nat → Prop} {H : AH} {sz n : Nat} {v : Value} {cells : List Value} (h : Vw p H sz v n cells) (hpq : ∀ b, p b → q b) : Vw q H sz v n cells := by
  refine ⟨h.1, ?_⟩
  rcases h.2 with h | ⟨b, off, sp, cap, cs, h1, h2, h3, h4, h5, hp⟩
  · exact .inl h
  · exact .inr ⟨b, off, sp, cap, cs, h1, h2, h3, h4, h5, hpq b hp⟩
/-- Another heap with the same cells, where p holds. -/
theorem Vw.over {p : Nat → Prop} {H H' : AH} {sz n : Nat} {v : Value} {cells : List Value} (h : Vw p H sz v n cells) (hk : ∀ b, p b → H'.cells b = H.cells b) : Vw p H' sz v n cells := by
  refine ⟨h.1, ?_⟩
  rcases h.2 with h | ⟨b, off, sp, cap, cs, h1, h2, h3, h4, h5, hp⟩
  · exact .inl h
  · exact .inr ⟨b, off, sp, cap, cs, h1, h2, h3, by rw [hk b hp, h4], h5, hp⟩

theorem Grow.trans {H H1 H2 : AH} (h : Grow H H1) (k : Grow H1 H2) : Grow H H2 := fun b B hB => k b B (h b B hB)
theorem Grow.refl {H : AH} : Grow H H := fun _ _ h => h

end Go.Abs
