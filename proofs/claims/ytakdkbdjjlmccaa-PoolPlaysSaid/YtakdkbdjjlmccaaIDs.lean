/-
  The numbers of a pool.
-/
import Derived.Test.YtakdkbdjjlmccaaPL
import Derived.Test.YtakdkbdjjlmccaaA24
set_option maxRecDepth 100000
set_option linter.unusedSimpArgs false
set_option linter.unusedVariables false
namespace Go.Proofs.Ytakdkbdjjlmccaa
open Go Go.Abs

/-- Which places are used, from k on. -/
def usedFrom (k : Nat) : List (Value × Bool) → List Int
  | [] => []
  | (_, true) :: r => (k : Int) :: usedFrom (k + 1) r
  | (_, false) :: r => usedFrom (k + 1) r

theorem usedFrom_append (l m : List (Value × Bool)) (k : Nat) : usedFrom k (l ++ m) = usedFrom k l ++ usedFrom (k + l.length) m := by
  induction l generalizing k with
  | nil => rfl
  | cons a l ih =>
    obtain ⟨x, u⟩ := a
    have := ih (k + 1)
    cases u <;> simp [usedFrom, this, Nat.add_assoc, Nat.add_comm 1]

theorem usedFrom_length (l : List (Value × Bool)) (k : Nat) : (usedFrom k l).length ≤ l.length := by
  induction l generalizing k with
  | nil => simp [usedFrom]
  | cons a l ih =>
    obtain ⟨x, u⟩ := a
    have := ih (k + 1)
    cases u <;> simp [usedFrom] <;> omega

theorem take_succ_get {α : Type} {l : List α} {k : Nat} {x : α} (h : l[k]? = some x) : l.take (k + 1) = l.take k ++ [x] := by
  rw [List.take_add_one, h]; rfl

/-- The result of a function that makes a list of numbers and leaves all else. -/
def NewInts (H : AH) (ik : IntKind) (e : TypeId) (l : List Int) (v : Value) (H' : AH) : Prop :=
  ∃ a c S, v = .slice a l.length c ∧ Own H' e 1 v l.length (l.map (.int ik)) S ∧ Keep [] H H' ∧ ∀ b ∈ S, H.next ≤ b

theorem IDs_spec {H : AH} {p : Nat} {R : PoolR} {S : List Nat} (h : IsPool 70 72 H p R S) (hroom : R.xs.length < 1000000) :
    AFn Try.prog 18 [.pointer (some ⟨p, 0, none⟩)] H (NewInts H .i64 3 (usedFrom 0 R.xs)) := by
  obtain ⟨sa, sc, fa, fc, Ss, Sf, h1, h2, h3, rfl, h5, h6, h7⟩ := h
  have hc := AH.cells_of h1
  refine AFn.enter mixed ir18_eq (by simp [ir18]) fun hw => ?_
  simp [ir18, hc]
  have hp := hw.lt h1
  refine loop_upto R.xs.length (fun k env H' => env 0 = some (.pointer (some ⟨p, 0, none⟩)) ∧ env 11 = some (.int .i64 R.xs.length) ∧ env 12 = some (.int .i64 k) ∧ WF H' ∧
      ∃ a n c S', env 3 = some (.slice a n c) ∧ Own H' 3 1 (.slice a n c) n ((usedFrom 0 (R.xs.take k)).map (.int .i64)) S' ∧ Keep [] H H' ∧ ∀ b ∈ S', H.next ≤ b) ?_ ?_
  · exact ⟨by simp, by simp, by simp, hw, none, 0, 0, [], by simp, .nil, .refl, by simp⟩
  · rintro k env H' hk ⟨e0, e11, e12, hw', a, n, c, S', e3, ho, hkeep, hS⟩
    have hb' : H'.blk p = _ := (hkeep.blk p hp (by simp)).trans h1
    have hc' := AH.cells_of hb'
    have hn := ho.n_eq
    have hul := usedFrom_length (R.xs.take k) 0
    simp only [List.length_take] at hul
    by_cases hkn : k < R.xs.length
    · have h2' : Own H' 72 2 _ R.xs.length (slotCells R.xs) Ss := h2.kept hw hkeep (by simp)
      obtain ⟨b, off, sp, cap, cs, he, rfl, q1, q2, q3, q4, q5, q6, q7⟩ := h2'.at (by omega)
      cases he
      have g := slotCells_get R.xs k
      have e2 : cs[off + k * 2 + 1]? = some (.bool (R.xs[k]).2) := by rw [Nat.add_assoc, q6 (k * 2 + 1) (by omega), g.2]; simp [hkn]
      have et : R.xs.take (k + 1) = R.xs.take k ++ [R.xs[k]] := take_succ_get (by simp [hkn])
      have hlen : (List.take k R.xs).length = k := by simp; omega
      cases hu : (R.xs[k]).2 with
      | true =>
        obtain ⟨a', c', H2, S2, r1, r2, r3, r4, r5⟩ := ho.push hw' 3 8 1 [.int .i64 k] rfl (by omega) (by omega)
        rw [hu] at e2
        simp (disch := omega) [-getElem?_pos, if_pos, if_neg, decide_eq_true, decide_eq_false, ir18_l0, e0, e11, e12, e3, hc', q2, e2, elemsA, cut, r1, IntWalk.i64_in]
        refine ⟨hkn, r4, a', n + 1, c', ⟨rfl, rfl, rfl⟩, S2, ?_, hkeep.trans r3 (fun b hb hlt => by have := hS b hb; omega), fun b hb => ?_⟩
        · have e5 : usedFrom 0 (List.take (k + 1) R.xs) = usedFrom 0 (List.take k R.xs) ++ [(k : Int)] := by
            rw [et, usedFrom_append, hlen]
            rw [show R.xs[k] = (R.xs[k].1, true) by rw [← hu]]
            simp [usedFrom]
          rw [e5]; simpa using r2
        · rcases r5 b hb with h | h
          · exact hS b h
          · exact Nat.le_trans hkeep.next h
      | false =>
        rw [hu] at e2
        simp (disch := omega) [-getElem?_pos, if_pos, if_neg, decide_eq_true, decide_eq_false, ir18_l0, e0, e11, e12, e3, hc', q2, e2, elemsA, cut, IntWalk.i64_in]
        refine ⟨hkn, hw', a, n, c, ⟨rfl, rfl, rfl⟩, S', ?_, hkeep, hS⟩
        have e5 : usedFrom 0 (List.take (k + 1) R.xs) = usedFrom 0 (List.take k R.xs) := by
          rw [et, usedFrom_append, hlen]
          rw [show R.xs[k] = (R.xs[k].1, false) by rw [← hu]]
          simp [usedFrom]
        rw [e5]; exact ho
    · obtain rfl : k = R.xs.length := by omega
      simp (disch := omega) [-getElem?_pos, ir18_l0, e0, e11, e12, e3]
      rw [List.take_length] at ho hn
      subst hn
      exact ⟨a, c, S', rfl, ho, hkeep, hS⟩
end Go.Proofs.Ytakdkbdjjlmccaa
