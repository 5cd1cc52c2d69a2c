/-
  PLAIN LAW: what the places that are used tell of a path.
-/
import Derived.Test.YtlcddhgfkkjhkaaDoorState0
set_option linter.unusedSimpArgs false
set_option linter.unusedVariables false
namespace Go.Abs
open Go
theorem setT_get {B : List Bool} {i : Int} {j : Nat} (hj : j < B.length) (hi : 0 ≤ i) : ((setT B i).getD j false = true) ↔ (B.getD j false = true ∨ (j : Int) = i) := by
  unfold setT
  split
  · rename_i h
    rw [List.getD_eq_getElem?_getD, List.getElem?_set]
    by_cases hji : i.toNat = j
    · rw [if_pos hji, if_pos (by omega)]
      simp; right; omega
    · rw [if_neg hji, ← List.getD_eq_getElem?_getD]
      constructor
      · exact .inl
      · rintro (h1 | h1)
        · exact h1
        · omega
  · rename_i h
    constructor
    · exact .inl
    · rintro (h1 | h1)
      · exact h1
      · omega
structure Seen (P : List Int) (B : List Bool) : Prop where
  nodup : P.Nodup
  range : ∀ y ∈ P, 0 ≤ y ∧ y < B.length
  count : B.count true = P.length
  has : ∀ j, j < B.length → (B.getD j false = true ↔ (j : Int) ∈ P)
theorem Seen.step {P : List Int} {B : List Bool} {d : Int} (h : Seen P B) (h0 : 0 ≤ d) (h1 : d < B.length) (hf : B.getD d.toNat false = false) : Seen (P ++ [d]) (setT B d) := by
  have hd : d ∉ P := fun hm => by
    have := (h.has d.toNat (by omega)).2 (by rw [Int.toNat_of_nonneg h0]; exact hm)
    rw [hf] at this
    exact absurd this (by simp)
  refine ⟨?_, fun y hy => ?_, ?_, fun j hj => ?_⟩
  · rw [List.nodup_append]
    refine ⟨h.nodup, by simp, fun a ha b hb => ?_⟩
    simp at hb
    subst hb
    intro e
    subst e
    exact hd ha
  · rw [setT_len]
    rcases List.mem_append.1 hy with hy | hy
    · exact h.range y hy
    · simp at hy; omega
  · unfold setT
    rw [if_pos ⟨h0, h1⟩, count_set (by omega) hf, h.count]
    simp
  · rw [setT_len] at hj
    rw [setT_get hj h0, h.has j hj, List.mem_append, List.mem_singleton]
theorem seen_nil {n : Nat} : Seen [] (List.replicate n false) := by
  refine ⟨List.nodup_nil, by simp, by rw [count_replicate]; rfl, fun j hj => ?_⟩
  rw [List.getD_eq_getElem?_getD, List.getElem?_replicate]
  split <;> simp
theorem used_len {x : InstD} {s : StD} (hok : x.Ok) (hs : StOk x s) (h : x.kind = 1 ∨ x.kind = 2) : s.used.length = x.cost.length := by
  have := size_zero hok h
  have := hs.used
  omega
structure UsedI (x : InstD) (s : StD) : Prop where
  rows : x.kind = 1 → Seen s.path s.used
  tour : x.kind = 2 → Seen (0 :: s.path) s.used
theorem used_start {x : InstD} (hok : x.Ok) : UsedI x x.start := by
  have hp : x.start.path = [] := rfl
  refine ⟨fun h => ?_, fun h => ?_⟩
  · rw [hp]
    unfold InstD.start
    simp only [if_neg (show ¬ x.kind = 2 by omega)]
    exact seen_nil
  · rw [hp]
    have hl := hok.few.sq (.inr h)
    unfold InstD.start
    simp only [if_pos h]
    exact seen_nil.step (by omega) (by rw [List.length_replicate]; omega) (by rw [List.getD_eq_getElem?_getD, List.getElem?_replicate]; split <;> rfl)
theorem used_apply {x : InstD} {s : StD} {d : Int} (ha : UsedI x s) (hd : d ∈ x.moves s) : UsedI x (x.applyS s d) := by
  refine ⟨fun k1 => ?_, fun k2 => ?_⟩
  · obtain ⟨g1, g2, g3, g4⟩ := moves_tour (.inl k1) hd
    have he : x.applyS s d = ⟨s.path ++ [d], s.cost + x.costN s.path.length d.toNat, s.left, s.pos, setT s.used d⟩ := by unfold InstD.applyS; rw [if_pos k1]
    rw [he]
    exact (ha.rows k1).step g2 g3 g4
  · obtain ⟨g1, g2, g3, g4⟩ := moves_tour (.inr k2) hd
    have hu : (x.applyS s d).used = setT s.used d := by
      unfold InstD.applyS InstD.wentS
      rw [if_neg (by omega), if_pos k2]
      simp only
      split <;> rfl
    rw [apply_path, hu]
    exact (ha.tour k2).step g2 g3 g4
end Go.Abs
