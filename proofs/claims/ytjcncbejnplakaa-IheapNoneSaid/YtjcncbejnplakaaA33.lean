/-
  THE ABSTRACT LAYER (33): a list that is built up by appends.
-/
import Derived.Test.YtjcncbejnplakaaA32
set_option linter.unusedSimpArgs false
set_option linter.unusedVariables false
namespace Go.Abs
open Go

/-- The first k of some elements stand in a slice of one's own; all that was there is as it was. -/
def Acc (H : AH) (ty sz : Nat) (cells : List Value) (k : Nat) (out : Value) (H' : AH) : Prop :=
  WF H' ∧ Keep [] H H' ∧ ∃ S, Own H' ty sz out k (cells.take (k * sz)) S ∧ ∀ b ∈ S, H.next ≤ b

theorem Acc.start {H : AH} {ty sz : Nat} {cells : List Value} (hw : WF H) : Acc H ty sz cells 0 (.slice none 0 0) H := ⟨hw, .refl, [], by simpa using Own.nil, by simp⟩
theorem Acc.start' {H H' : AH} {ty sz : Nat} {cells : List Value} (hw : WF H') (hk : Keep [] H H') : Acc H ty sz cells 0 (.slice none 0 0) H' := ⟨hw, hk, [], by simpa using Own.nil, by simp⟩
theorem Acc.slice {H H' : AH} {ty sz k : Nat} {cells : List Value} {out : Value} (h : Acc H ty sz cells k out H') : ∃ a c, out = .slice a k c := by
  obtain ⟨_, _, S, h, _⟩ := h
  exact h.slice
/-- Another heap behind it. -/
theorem Acc.kept {H H' H'' : AH} {ty sz k : Nat} {cells : List Value} {out : Value} (h : Acc H ty sz cells k out H') (hw : WF H'') (hk : Keep [] H' H'') : Acc H ty sz cells k out H'' := by
  obtain ⟨w, k1, S, o, hS⟩ := h
  exact ⟨hw, k1.trans' hk, S, o.kept w hk (by simp), hS⟩
theorem Acc.push {H H' : AH} {ty sz k bytes : Nat} {cells : List Value} {out : Value} (h : Acc H ty sz cells k out H') (news : List Value) (hn : (cells.drop (k * sz)).take sz = news) (hl : news.length = sz) (hroom : (k + 1) * bytes ≤ 140737488355328) (hmax : k + 1 ≤ 9223372036854775807) :
    ∃ a c a' c' H5, out = .slice a k c ∧ appendA (H'.alloc (.row news ty true)) ty sz bytes out 1 news = some (.slice a' (k + 1) c', H5) ∧ Acc H ty sz cells (k + 1) (.slice a' (k + 1) c') H5 ∧ Keep [] H H5 ∧ WF H5 := by
  obtain ⟨w, k1, S, o, hS⟩ := h
  obtain ⟨a, c, rfl⟩ := o.slice
  obtain ⟨a', c', H5, S5, p1, p2, p3, p4, p5⟩ := o.push w ty bytes 1 news (by omega) hroom hmax
  have hk5 : Keep [] H H5 := k1.trans p3 fun b hb hlt => by have := hS b hb; omega
  refine ⟨a, c, a', c', H5, rfl, p1, ⟨p4, hk5, S5, ?_, fun b hb => ?_⟩, hk5, p4⟩
  · rw [Nat.add_mul, Nat.one_mul, List.take_add, hn]
    exact p2
  · rcases p5 b hb with h | h
    · exact hS b h
    · have := k1.next; omega
theorem Acc.done {H H' : AH} {ty sz n : Nat} {cells : List Value} {out : Value} (h : Acc H ty sz cells n out H') (hn : cells.length = n * sz) : ∃ S, Own H' ty sz out n cells S ∧ Keep [] H H' ∧ ∀ b ∈ S, H.next ≤ b := by
  obtain ⟨w, k1, S, o, hS⟩ := h
  rw [List.take_of_length_le (by omega)] at o
  exact ⟨S, o, k1, hS⟩

end Go.Abs
