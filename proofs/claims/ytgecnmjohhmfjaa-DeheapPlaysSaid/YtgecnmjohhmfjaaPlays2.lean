/-
  Law 7: last.
-/
import Derived.Test.YtgecnmjohhmfjaaPlays1
set_option maxRecDepth 100000
set_option linter.unusedSimpArgs false
set_option linter.unusedVariables false
namespace Go.Proofs.Ytgecnmjohhmfjaa
open Go Go.Abs
theorem getE_reverse {M : List Ent} {k m : Nat} (h : m + k + 1 = M.length) {N : Nat} (hN : k < N) (hNl : N ≤ M.length) : ((cellsE (M.reverse.take N)).drop (k * 4)).take 4 = (getE M m).cells := by
  have hl : (M.reverse.take N).length = N := by rw [List.length_take, List.length_reverse]; omega
  rw [drop_ent (by omega), getE_take (by omega), getE_rev (by omega)]
  rw [show M.length - 1 - k = m by omega]
def LaI (p : Nat → Prop) (H : AH) (M : List Ent) (n : Int) (N k : Nat) (env : Env) (H' : AH) : Prop :=
  (∃ w, env 0 = some w ∧ EntsV p H w (M.take (M.length - k))) ∧ env 1 = some (.int .i64 (n - k)) ∧ ∃ out, env 6 = some out ∧ Acc H T_secateurref05_Entry 4 (cellsE (M.reverse.take N)) k out H'
def LaQ (p : Nat → Prop) (H : AH) (M : List Ent) (N : Nat) (e : AExit) (env : Env) (H' : AH) : Prop := e = .exit 0 ∧ (∃ w, env 0 = some w ∧ EntsV p H w (M.take (M.length - N))) ∧ ∃ out, env 6 = some out ∧ Acc H T_secateurref05_Entry 4 (cellsE (M.reverse.take N)) N out H'
theorem slA_first {H : AH} {b off m cap : Nat} {sp : Option Nat} (hs : sp = none ∨ sp = some 4) (hm : m ≤ cap) {n : Nat} : slA H 4 (some (.slice (some ⟨b, off, sp⟩) n cap)) (some (.int .i64 m)) = some (.slice (some ⟨b, off, sp⟩) m cap, H) := by
  rcases hs with rfl | rfl
  · simp only [slA]; rw [if_pos (by omega)]; simp
  · simp only [slA]; rw [if_pos (by omega)]; simp
theorem last7_spec {p : Nat → Prop} {H : AH} {mv : Value} {M : List Ent} (hM : EntsV p H mv M) {n : Int} (hn : n ≤ 100) {N : Nat} (hN : (N : Int) = min (max n 0) M.length) :
    AFn Try.prog F_law07_last [mv, .int .i64 n] H fun u H' => Keep [] H H' ∧ ∃ w out, u = .tuple #[w, out] ∧ EntsV p H' w (M.take (M.length - N)) ∧ EntsV (fun b => H.next ≤ b) H' out (M.reverse.take N) := by
  refine AFn.enter mixed ir_law07_last_eq (by simp [ir_law07_last]) fun hw => ?_
  have hMl := hM.2
  have hNl : N ≤ M.length := by omega
  simp (disch := omega) [-getElem?_pos, if_pos, if_neg, decide_eq_true, decide_eq_false, ir_law07_last]
  refine wpC_use (loop_upto N (LaI p H M n N) (Q := LaQ p H M N) ⟨⟨mv, by simp, by simpa using hM⟩, by simp, .slice none 0 0, by simp, .start hw⟩ ?_) ?_
  · rintro k env H' hk ⟨⟨w, e0, hw0⟩, e1, out, e6, ho⟩
    obtain ⟨oa, oc, rfl⟩ := ho.slice
    by_cases hkn : k < N
    · obtain ⟨m, hm⟩ : ∃ m, m + k + 1 = M.length := ⟨M.length - k - 1, by omega⟩
      have hml : M.length - k = m + 1 := by omega
      rw [hml] at hw0
      have hwl : (M.take (m + 1)).length = m + 1 := by rw [List.length_take]; omega
      obtain ⟨b0, off, sp, cap, cs, hwv, hcap, g2, q1, _, _, _, _⟩ := hw0.1.at (by omega)
      obtain ⟨b0', off', sp', cap', cs', hwv', q1', q2⟩ := ents_at hw0.1 (by omega)
      subst hwv
      cases hwv'
      rw [q1] at q1'
      obtain rfl := Option.some.inj q1'
      have q3 := q2 m (by omega)
      rw [getE_take (by omega)] at q3
      have hx := getE_reverse hm hkn hNl
      have t1 : EntsV p H (.slice (some ⟨b0, off, sp⟩) m cap) (M.take m) := by
        have := hw0.1.first (k := m) (by omega) cap (by omega)
        rw [cellsE_take, List.take_take, Nat.min_eq_left (by omega)] at this
        exact ⟨by rw [show (M.take m).length = m by rw [List.length_take]; omega]; exact this, by rw [List.length_take]; omega⟩
      generalize getE M m = x at *
      obtain ⟨a1, c1, a2, c2, H5, hs1, p1, p2, p3, p4⟩ := ho.push (bytes := 32) _ hx rfl (by omega) (by omega)
      cases hs1
      have q4 := cells_kept hw ho.2.1 q1
      have s1 : ∀ {HH : AH}, slA HH 4 (some (.slice (some ⟨b0, off, sp⟩) (m + 1) cap)) (some (.int .i64 m)) = some (.slice (some ⟨b0, off, sp⟩) m cap, HH) := fun {HH} => slA_first g2 (by omega)
      rw [hwl] at e0
      have hsub : ((m : Int) + 1) - 1 = (m : Int) := by omega
      have hpos : n - (k : Int) > 0 := by omega
      have hwr : n - ((k : Int) + 1) = n - (k : Int) - 1 := by omega
      simp only [Ent.cells] at p1 q3
      clear q2 hx
      simp (disch := omega) [-getElem?_pos, if_pos, if_neg, decide_eq_true, decide_eq_false, ir_law07_last_l0, e0, e1, e6, hpos, hsub, q4, q3, cutE, elemsA, p1, ↓ieval_slhi, s1, IntWalk.i64_in]
      refine ⟨hkn, ⟨.slice (some ⟨b0, off, sp⟩) m cap, by simp, ?_⟩, by simp [hwr], .slice a2 (k + 1) c2, by simp, p2⟩
      rw [show M.length - (k + 1) = m by omega]
      exact t1
    · obtain rfl : k = N := by omega
      have hwl : (M.take (M.length - k)).length = M.length - k := by rw [List.length_take]; omega
      obtain ⟨wa, wc, rfl⟩ := hw0.1.slice
      rw [hwl] at e0 hw0
      have hdec : ¬ (n - (k : Int) > 0 ∧ ((M.length - k : Nat) : Int) > 0) := by omega
      by_cases h1 : n - (k : Int) > 0
      · have h2 : M.length - k = 0 := by omega
        rw [h2] at e0
        simp (disch := omega) [-getElem?_pos, if_pos, if_neg, decide_eq_true, decide_eq_false, ir_law07_last_l0, e0, e1, h1]
        exact ⟨rfl, ⟨_, e0, by rw [← h2]; exact hw0⟩, _, e6, ho⟩
      · simp (disch := omega) [-getElem?_pos, if_pos, if_neg, decide_eq_true, decide_eq_false, ir_law07_last_l0, e0, e1, h1]
        exact ⟨rfl, ⟨_, e0, hw0⟩, _, e6, ho⟩
  · rintro e env2 H2 ⟨rfl, ⟨w, e0, h0⟩, out, e6, ho⟩ _
    simp (disch := omega) [-getElem?_pos, if_pos, if_neg, decide_eq_true, decide_eq_false, e0, e6]
    have hl : (M.reverse.take N).length = N := by rw [List.length_take, List.length_reverse]; omega
    refine ⟨ho.2.1, w, out, ⟨rfl, rfl⟩, h0.kept hw ho.2.1, (acc_ents (by rw [hl]; exact ho) (by omega)).1⟩
end Go.Proofs.Ytgecnmjohhmfjaa
