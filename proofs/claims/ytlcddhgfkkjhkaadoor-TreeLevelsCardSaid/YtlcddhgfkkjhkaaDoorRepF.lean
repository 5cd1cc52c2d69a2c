/-
  PLAIN LAW: the state behind a path that goes on.
-/
import Derived.Test.YtlcddhgfkkjhkaaDoorState6
set_option linter.unusedSimpArgs false
set_option linter.unusedVariables false
namespace Go.Proofs.YtlcddhgfkkjhkaaDoor
open Go Go.Abs
theorem replayF_snoc {x : InstD} {d : Int} : ∀ {P : List Int} {s : StD} {i j : Nat} {t : StD}, x.replayF s i P = (t, j, true) → d ∈ x.moves t → x.replayF s i (P ++ [d]) = (x.applyS t d, 0, true)
  | [], s, i, j, t, h, hd => by
    cases h
    rw [List.nil_append, replay_step, if_pos hd]; rfl
  | a :: l, s, i, j, t, h, hd => by
    rw [replay_step] at h
    rw [List.cons_append, replay_step]
    split at h
    · rename_i ha
      rw [if_pos ha]
      exact replayF_snoc h hd
    · cases h
theorem replayF_ok {x : InstD} (hok : x.Ok) : ∀ {P : List Int} {s : StD} {i j : Nat} {t : StD}, StOk x s → x.replayF s i P = (t, j, true) → StOk x t ∧ t.path = s.path ++ P
  | [], s, i, j, t, hs, h => by cases h; exact ⟨hs, by simp⟩
  | a :: l, s, i, j, t, hs, h => by
    rw [replay_step] at h
    split at h
    · rename_i ha
      obtain ⟨h1, h2⟩ := replayF_ok hok (apply_ok hok hs ha) h
      exact ⟨h1, by rw [h2, apply_path]; simp⟩
    · cases h
end Go.Proofs.YtlcddhgfkkjhkaaDoor
