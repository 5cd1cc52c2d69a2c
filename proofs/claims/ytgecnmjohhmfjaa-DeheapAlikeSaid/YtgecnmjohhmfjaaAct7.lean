/-
  Law 7: acts; of, done anywhere.
-/
import Derived.Test.YtgecnmjohhmfjaaPlays1
import Derived.Test.YtgecnmjohhmfjaaGrow
set_option maxRecDepth 100000
set_option linter.unusedSimpArgs false
set_option linter.unusedVariables false
namespace Go.Proofs.Ytgecnmjohhmfjaa
open Go Go.Abs
theorem of7_calm {H : AH} (x : Ent) : CalmCall Try.prog (.func (.func F_law07_of) #[] #[]) [x.val] [] H x.val := .pure good_law07_of (fun H1 => of7_spec x) rfl
def cellsD : List (Int × Ent × Int) → List Value
  | [] => []
  | (z, x, n) :: r => .int .i64 z :: .int .i64 x.b :: .int .i64 x.d :: .int .i64 x.s :: .int .i64 x.i :: .int .i64 n :: cellsD r
theorem cellsD_length (l : List (Int × Ent × Int)) : (cellsD l).length = l.length * 6 := by
  induction l with
  | nil => rfl
  | cons a l ih => obtain ⟨z, x, n⟩ := a; simp [cellsD, ih]; omega
theorem cellsD_get (l : List (Int × Ent × Int)) (k : Nat) (h : k < l.length) : ((cellsD l).drop (k * 6)).take 6 = [.int .i64 l[k].1, .int .i64 l[k].2.1.b, .int .i64 l[k].2.1.d, .int .i64 l[k].2.1.s, .int .i64 l[k].2.1.i, .int .i64 l[k].2.2] := by
  induction l generalizing k with
  | nil => simp at h
  | cons a l ih =>
    obtain ⟨z, x, n⟩ := a
    cases k with
    | zero => simp [cellsD]
    | succ k =>
      rw [show (k + 1) * 6 = k * 6 + 6 by omega]
      simpa [cellsD] using ih k (by simpa using h)
theorem cellsD_take (l : List (Int × Ent × Int)) (k : Nat) : (cellsD l).take (k * 6) = cellsD (l.take k) := by
  induction l generalizing k with
  | nil => simp [cellsD]
  | cons a l ih =>
    obtain ⟨z, x, n⟩ := a
    cases k with
    | zero => simp [cellsD]
    | succ k =>
      rw [show (k + 1) * 6 = k * 6 + 6 by omega]
      simp [cellsD, ih]
theorem dacts_at {p : Nat → Prop} {H : AH} {v : Value} {l : List (Int × Ent × Int)} (h : Vw p H 6 v l.length (cellsD l)) (h0 : 0 < l.length) : ∃ b off sp cap cs, v = .slice (some ⟨b, off, sp⟩) l.length cap ∧ H.cells b = some cs ∧ ∀ k, k < l.length → ∃ (z : Int) (x : Ent) (n : Int), cut cs (off + k * 6) 6 = some [.int .i64 z, .int .i64 x.b, .int .i64 x.d, .int .i64 x.s, .int .i64 x.i, .int .i64 n] := by
  obtain ⟨b, off, sp, cap, cs, h1, h2, h3, h4, h5, h6, h7, _⟩ := h.at h0
  refine ⟨b, off, sp, cap, cs, h1, h4, fun k hk => ⟨l[k].1, l[k].2.1, l[k].2.2, ?_⟩⟩
  obtain ⟨q1, q2, q3, q4⟩ := cut_spec h7
  rw [cut_eq (by omega), ← cellsD_get l k hk, q2, List.drop_take, List.drop_drop, List.take_take, Nat.min_eq_left (by omega)]
theorem slA_heap {H H' H2 : AH} {sz : Nat} {v i : Option Value} {w : Value} (h : slA H sz v i = some (w, H2)) : slA H' sz v i = some (w, H') := by
  unfold slA at h ⊢
  split at h
  · split at h
    · rename_i hc; simp at h; simp [hc, h.1]
    · cases h
  · split at h
    · rename_i hc; simp at h; simp [hc, h.1]
    · cases h
  · split at h
    · rename_i hc
      split at h
      · rename_i ht; subst ht; rw [if_pos hc, if_pos rfl]; simp at h; simp [h]
      · cases h
    · cases h
  · cases h
end Go.Proofs.Ytgecnmjohhmfjaa
