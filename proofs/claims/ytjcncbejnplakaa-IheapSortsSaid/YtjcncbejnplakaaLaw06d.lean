/-
  Law 6 (4): a list that stands right is told to stand right.
-/
import Derived.Test.YtjcncbejnplakaaLaw06c
set_option maxRecDepth 100000
set_option linter.unusedSimpArgs false
set_option linter.unusedVariables false
namespace Go.Proofs.Ytjcncbejnplakaa
open Go Go.Abs

def StandI (H : AH) (sv : Value) (n : Nat) (k : Nat) (env : Env) (H' : AH) : Prop :=
  env 0 = some sv ∧ env 7 = some sv ∧ env 8 = some (.int .i64 n) ∧ env 9 = some (.int .i64 k) ∧ WF H' ∧ Keep [] H H'

theorem stands_spec {p : Nat → Prop} {H : AH} {v : Value} {L : List Ent} (h : EntsV p H v L) (hL : StL L) : AFn Try.prog F_law06_stands [v] H fun u H' => u = .bool true ∧ H' = H := by
  refine AFn.calm (fun H0 hs => ?_) rfl
  replace h := h.same hs
  refine AFn.enter mixed ir_law06_stands_eq (by simp [ir_law06_stands]) fun hw => ?_
  obtain ⟨a, c, rfl⟩ := h.1.slice
  have hlen := h.2
  have hcx : ∀ y : Ent, cut [Value.int .i64 y.b, .int .i64 y.d, .int .i64 y.s, .int .i64 y.i] 0 4 = some [Value.int .i64 y.b, .int .i64 y.d, .int .i64 y.s, .int .i64 y.i] := fun _ => rfl
  simp (disch := omega) [-getElem?_pos, if_pos, if_neg, decide_eq_true, decide_eq_false, ir_law06_stands]
  refine wpC_use (loop_upto L.length (StandI H0 (.slice a L.length c) L.length) (Q := fun e env H' => e = .exit 0) ⟨by simp, by simp, by simp, by simp, hw, .refl⟩ ?_) fun e env2 H2 he _ => ?_
  · rintro i env H' hi ⟨e0, e7, e8, e9, w', k'⟩
    by_cases hin : i < L.length
    · obtain ⟨b0, off, sp, cap, cs, hsl, q0, q2⟩ := ents_at h.1 (by omega)
      cases hsl
      have q1 := cells_kept hw k' q0
      have q3 := q2 i hin
      have hbne : b0 ≠ H'.next := by have := cells_lt w' q1; omega
      have hbn : (H'.alloc (.row [.int .i64 0, .int .i64 0, .int .i64 0, .int .i64 0] T_key_Entry true)).blk H'.next = some (.row [.int .i64 0, .int .i64 0, .int .i64 0, .int .i64 0] T_key_Entry true) := by simp
      have hnew : ∀ x : Ent, WF (H'.alloc (entB x)) ∧ Keep [] H0 (H'.alloc (entB x)) := fun x => ⟨w'.alloc, .new_alloc k'⟩
      have t1 : (i : Int).tdiv 2 = ((i / 2 : Nat) : Int) := by rw [Int.tdiv_eq_ediv_of_nonneg (by omega)]; norm_cast
      have t2 : (i : Int).tmod 2 = ((i % 2 : Nat) : Int) := by rw [Int.tmod_eq_emod_of_nonneg (by omega)]; norm_cast
      have hz : i % 2 = 0 ∨ i % 2 = 1 := by omega
      have edge1 : i % 2 = 1 → (getE L i).lt (getE L (i - 1)) = false := fun hz => hL (i - 1) i (by omega) hin (by unfold Go.Abs.Edge; omega)
      have edge2 : 2 ≤ i → (getE L i).lt (getE L (2 * ((i / 2 - 1) / 2))) = false := fun hz => hL (2 * ((i / 2 - 1) / 2)) i (by omega) hin (by unfold Go.Abs.Edge; omega)
      have edge3 : 2 ≤ i → (getE L (2 * ((i / 2 - 1) / 2) + 1)).lt (getE L i) = false := fun hz => hL i (2 * ((i / 2 - 1) / 2) + 1) hin (by omega) (by unfold Go.Abs.Edge; omega)
      by_cases h2 : 2 ≤ i
      · obtain ⟨w0, hw0⟩ : ∃ w0, w0 = 2 * ((i / 2 - 1) / 2) := ⟨_, rfl⟩
        obtain ⟨w1, hw1⟩ : ∃ w1, w1 = 2 * ((i / 2 - 1) / 2) + 1 := ⟨_, rfl⟩
        obtain ⟨up, hup⟩ : ∃ up, up = (i / 2 - 1) / 2 := ⟨_, rfl⟩
        have hw0l : w0 < L.length := by omega
        have hw1l : w1 < L.length := by omega
        have t3 : ((i / 2 : Nat) : Int) - 1 = ((i / 2 - 1 : Nat) : Int) := by omega
        have t4 : ((i / 2 - 1 : Nat) : Int).tdiv 2 = ((up : Nat) : Int) := by rw [Int.tdiv_eq_ediv_of_nonneg (by omega), hup]; norm_cast
        have t5 : 2 * (up : Int) = (w0 : Int) := by omega
        have t6 : (w0 : Int) + 1 = (w1 : Int) := by omega
        have t7 : (0 : Int) < ((i / 2 : Nat) : Int) := by omega
        have t9 : (up : Int) ≤ 1000000 := by omega
        have t10 : ((i / 2 - 1 : Nat) : Int) ≤ 1000000 := by omega
        have t11 : ((i / 2 : Nat) : Int) ≤ 1000000 := by omega
        have g2 := edge2 h2
        have g3 := edge3 h2
        rw [← hw0] at g2
        rw [← hw1] at g3
        have q4 := q2 w0 hw0l
        have q5 := q2 w1 hw1l
        clear hup hw0 hw1 edge2 edge3
        generalize hx : getE L i = x at *
        generalize getE L w0 = y0 at *
        generalize getE L w1 = y1 at *
        generalize i / 2 - 1 = k1 at *
        generalize i / 2 = k at *
        rcases hz with hz | hz
        · rw [hz] at t2
          simp only [Ent.cells] at q3 q4 q5
          simp (disch := omega) [-getElem?_pos, if_pos, if_neg, decide_eq_true, decide_eq_false, ir_law06_stands_l0, e0, e7, e8, e9, q1, hbne, q3, q4, q5, writeA_row hbn, over, hcx, t1, t2, t3, t4, t5, t6, t7, IntWalk.i64_in, show (i:Int) < L.length by omega]
          refine AFnD.of (Less_spec x y0) ?_
          simp (disch := omega) [-getElem?_pos, if_pos, if_neg, decide_eq_true, decide_eq_false, e0, e7, e8, e9, q1, hbne, q3, q4, q5, g2, hcx, t1, t2, t3, t4, t5, t6, t7, IntWalk.i64_in]
          refine AFnD.of (Less_spec y1 x) ?_
          simp (disch := omega) [-getElem?_pos, if_pos, if_neg, decide_eq_true, decide_eq_false, e0, e7, e8, e9, g2, g3, IntWalk.i64_in]
          exact ⟨hin, by simp [e0], by simp [e7], by simp [e8], by simp, hnew x⟩
        · rw [hz] at t2
          obtain ⟨m, hm⟩ : ∃ m, m = i - 1 := ⟨_, rfl⟩
          have t8 : (i : Int) - 1 = (m : Int) := by omega
          have g1 := edge1 hz
          rw [← hm] at g1
          have q6 := q2 m (by omega)
          clear edge1
          generalize getE L m = y2 at *
          simp only [Ent.cells] at q3 q4 q5 q6
          simp (disch := omega) [-getElem?_pos, if_pos, if_neg, decide_eq_true, decide_eq_false, ir_law06_stands_l0, e0, e7, e8, e9, q1, hbne, q3, q4, q5, q6, writeA_row hbn, over, hcx, t1, t2, t3, t4, t5, t6, t7, t8, IntWalk.i64_in, show (i:Int) < L.length by omega]
          refine AFnD.of (Less_spec x y2) ?_
          simp (disch := omega) [-getElem?_pos, if_pos, if_neg, decide_eq_true, decide_eq_false, e0, e7, e8, e9, q1, hbne, q3, q4, q5, g1, hcx, t1, t2, t3, t4, t5, t6, t7, IntWalk.i64_in]
          refine AFnD.of (Less_spec x y0) ?_
          simp (disch := omega) [-getElem?_pos, if_pos, if_neg, decide_eq_true, decide_eq_false, e0, e7, e8, e9, q1, hbne, q3, q4, q5, g2, hcx, t1, t2, t3, t4, t5, t6, t7, IntWalk.i64_in]
          refine AFnD.of (Less_spec y1 x) ?_
          simp (disch := omega) [-getElem?_pos, if_pos, if_neg, decide_eq_true, decide_eq_false, e0, e7, e8, e9, g2, g3, IntWalk.i64_in]
          exact ⟨hin, by simp [e0], by simp [e7], by simp [e8], by simp, hnew x⟩
      · have hc : i = 0 ∨ i = 1 := by omega
        rcases hc with rfl | rfl
        · generalize hx : getE L 0 = x at *
          simp only [Ent.cells, Nat.zero_mul, Nat.add_zero] at q3
          simp (disch := omega) [-getElem?_pos, if_pos, if_neg, decide_eq_true, decide_eq_false, ir_law06_stands_l0, e0, e7, e8, e9, q1, hbne, q3, writeA_row hbn, over, hcx, IntWalk.i64_in, show (0:Int) < L.length by omega]
          exact ⟨hin, by simp [e0], by simp [e7], by simp [e8], by simp, hnew x⟩
        · have g1 := edge1 rfl
          have q6 := q2 0 (by omega)
          generalize hx : getE L 1 = x at *
          generalize hy : getE L (1 - 1) = y at *
          simp only [Ent.cells, Nat.zero_mul, Nat.add_zero, Nat.one_mul] at q3 q6
          simp (disch := omega) [-getElem?_pos, if_pos, if_neg, decide_eq_true, decide_eq_false, ir_law06_stands_l0, e0, e7, e8, e9, q1, hbne, q3, q6, writeA_row hbn, over, hcx, IntWalk.i64_in, show (1:Int) < L.length by omega]
          refine AFnD.of (Less_spec x y) ?_
          simp (disch := omega) [-getElem?_pos, if_pos, if_neg, decide_eq_true, decide_eq_false, e0, e7, e8, e9, q1, hbne, q3, g1, hcx, IntWalk.i64_in]
          exact ⟨hin, by simp [e0], by simp [e7], by simp [e8], by simp, hnew x⟩
    · obtain rfl : i = L.length := by omega
      simp (disch := omega) [-getElem?_pos, if_pos, if_neg, decide_eq_true, decide_eq_false, ir_law06_stands_l0, e7, e8, e9]
  · subst he
    simp (disch := omega) [-getElem?_pos, if_pos, if_neg, decide_eq_true, decide_eq_false, ]
end Go.Proofs.Ytjcncbejnplakaa
