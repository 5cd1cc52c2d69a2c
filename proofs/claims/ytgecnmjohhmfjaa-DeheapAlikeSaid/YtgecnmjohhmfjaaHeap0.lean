/-
  Lists of entries in memory; a heap's value.
-/
import Derived.Test.YtgecnmjohhmfjaaKeyOrd
set_option maxRecDepth 100000
set_option linter.unusedSimpArgs false
set_option linter.unusedVariables false
namespace Go.Proofs.Ytgecnmjohhmfjaa
open Go Go.Abs
def cellsE : List Ent → List Value
  | [] => []
  | e :: l => e.cells ++ cellsE l
theorem cellsE_length (l : List Ent) : (cellsE l).length = l.length * 4 := by
  induction l with
  | nil => rfl
  | cons e l ih => simp [cellsE, Ent.cells, ih]; omega
theorem cellsE_get (l : List Ent) (k : Nat) (h : k < l.length) : ((cellsE l).drop (k * 4)).take 4 = l[k].cells := by
  induction l generalizing k with
  | nil => simp at h
  | cons e l ih =>
    cases k with
    | zero => simp [cellsE, Ent.cells]
    | succ k =>
      have := ih k (by simpa using h)
      rw [show (k + 1) * 4 = e.cells.length + k * 4 by simp [Ent.cells]; omega, cellsE, ← List.drop_drop, List.drop_left]
      simpa using this
theorem cellsE_append (l m : List Ent) : cellsE (l ++ m) = cellsE l ++ cellsE m := by
  induction l with
  | nil => rfl
  | cons e l ih => simp [cellsE, ih, List.append_assoc]
theorem cellsE_take (l : List Ent) (k : Nat) : (cellsE l).take (k * 4) = cellsE (l.take k) := by
  induction l generalizing k with
  | nil => simp [cellsE]
  | cons e l ih =>
    cases k with
    | zero => simp [cellsE]
    | succ k =>
      rw [show (k + 1) * 4 = e.cells.length + k * 4 by simp [Ent.cells]; omega, cellsE, List.take_length_add_append, ih]
      rfl
theorem cellsE_set (l : List Ent) (k : Nat) (e : Ent) (h : k < l.length) : over (cellsE l) (k * 4) e.cells = cellsE (l.set k e) := by
  apply List.ext_getElem?
  intro j
  have hl := cellsE_length l
  have hl2 := cellsE_length (l.set k e)
  simp only [List.length_set] at hl2
  rw [over_get' (by simp [Ent.cells]; omega)]
  have hj : ∀ (m : List Ent) (q : Nat), q < m.length → ∀ r, r < 4 → (cellsE m)[q * 4 + r]? = (m[q]?.map Ent.cells).bind fun c => c[r]? := by
    intro m q hq r hr
    have := cellsE_get m q hq
    have h2 : (((cellsE m).drop (q * 4)).take 4)[r]? = (m[q].cells)[r]? := by rw [this]
    rw [List.getElem?_take_of_lt hr, List.getElem?_drop] at h2
    rw [h2, List.getElem?_eq_getElem hq]
    rfl
  by_cases hlt : j < l.length * 4
  · obtain ⟨q, r, rfl, hr⟩ : ∃ q r, j = q * 4 + r ∧ r < 4 := ⟨j / 4, j % 4, by omega, by omega⟩
    have hq : q < l.length := by omega
    rw [hj (l.set k e) q (by simpa using hq) r hr, List.getElem?_set]
    by_cases hqk : k = q
    · subst hqk
      rw [if_pos (by simp [Ent.cells]; omega), if_pos rfl, if_pos hq]
      simp
    · rw [if_neg (by simp [Ent.cells]; omega), if_neg hqk, hj l q hq r hr]
  · rw [if_neg (by simp [Ent.cells]; omega), List.getElem?_eq_none (by omega), List.getElem?_eq_none (by omega)]
def swapL (L : List Ent) (i k : Nat) : List Ent := match L[i]?, L[k]? with
  | some a, some b => (L.set i b).set k a
  | _, _ => L
theorem swapL_length (L : List Ent) (i k : Nat) : (swapL L i k).length = L.length := by
  unfold swapL; split <;> simp
def HeapR (H : AH) (q : Nat) (L : List Ent) : Prop := ∃ v, H.cells q = some [v] ∧ Vw (fun _ => True) H 4 v L.length (cellsE L) ∧ L.length ≤ 1000000
theorem HeapR.same {H H0 : AH} {q : Nat} {L : List Ent} (h : HeapR H q L) (hs : SameC H H0) : HeapR H0 q L := by
  obtain ⟨v, h1, h2, h3⟩ := h
  exact ⟨v, by rw [hs.2, h1], h2.same hs, h3⟩
theorem entries_at {p : Nat → Prop} {H : AH} {v : Value} {L : List Ent} (h : Vw p H 4 v L.length (cellsE L)) (h0 : 0 < L.length) : ∃ b off sp cap cs, v = .slice (some ⟨b, off, sp⟩) L.length cap ∧ H.cells b = some cs ∧ ∀ k (hk : k < L.length), cut cs (off + k * 4) 4 = some L[k].cells := by
  obtain ⟨b, off, sp, cap, cs, h1, h2, h3, h4, h5, h6, h7, _⟩ := h.at h0
  refine ⟨b, off, sp, cap, cs, h1, h4, fun k hk => ?_⟩
  obtain ⟨q1, q2, q3, q4⟩ := cut_spec h7
  rw [cut_eq (by omega), ← cellsE_get L k hk, q2, List.drop_take, List.drop_drop, List.take_take, Nat.min_eq_left (by omega)]
end Go.Proofs.Ytgecnmjohhmfjaa
