/-
  Law 7: same, cut, last.
-/
import Derived.Test.YtgecnmjohhmfjaaCuts
import Derived.Test.YtgecnmjohhmfjaaSlLo
set_option maxRecDepth 100000
set_option linter.unusedSimpArgs false
set_option linter.unusedVariables false
namespace Go.Proofs.Ytgecnmjohhmfjaa
open Go Go.Abs
theorem eqE_three (x y : Ent) : eqAll [(0, none, .int), (1, none, .int), (2, none, .int)] [.int .i64 x.b, .int .i64 x.d, .int .i64 x.s] [.int .i64 y.b, .int .i64 y.d, .int .i64 y.s] = some (decide (x.b = y.b ∧ x.d = y.d ∧ x.s = y.s)) := by
  rw [eqAll_cons1 rfl rfl, eqs_int, eqNext_some, eqAll_cons1 rfl rfl, eqs_int, eqNext_some, eqAll_cons1 rfl rfl, eqs_int, eqNext_some, eqAll_nil]
  simp only [beq_iff_eq]
  repeat' split
  all_goals simp_all
theorem eqE_key (x y : Ent) : eqAll [(0, some 3, .node [(0, none, .int), (1, none, .int), (2, none, .int)]), (3, none, .int)] [.int .i64 x.b, .int .i64 x.d, .int .i64 x.s, .int .i64 x.i] [.int .i64 y.b, .int .i64 y.d, .int .i64 y.s, .int .i64 y.i] = some (decide (x = y)) := by
  have h1 : eqAll [(3, none, .int)] [.int .i64 x.b, .int .i64 x.d, .int .i64 x.s, .int .i64 x.i] [.int .i64 y.b, .int .i64 y.d, .int .i64 y.s, .int .i64 y.i] = some (decide (x.i = y.i)) := by
    rw [eqAll_cons1 rfl rfl, eqs_int, eqNext_some, eqAll_nil]
    by_cases h : x.i = y.i <;> simp [h]
  rw [eqAll_cons1 rfl rfl, eqs_node]
  have h2 := eqE_three x y
  rw [show eqAll [(0, none, .int), (1, none, .int), (2, none, .int)] (((List.drop 0 [Value.int IntKind.i64 x.b, .int .i64 x.d, .int .i64 x.s, .int .i64 x.i]).take 3).toArray.toList) (((List.drop 0 [Value.int IntKind.i64 y.b, .int .i64 y.d, .int .i64 y.s, .int .i64 y.i]).take 3).toArray.toList) = _ from h2, eqNext_some, h1]
  cases x; cases y
  simp only [Ent.mk.injEq]
  repeat' split
  all_goals simp_all
theorem Vw.spOk {p : Nat → Prop} {H : AH} {sz n : Nat} {v : Value} {cells : List Value} (h : Vw p H sz v n cells) (h0 : 0 < n) : SpOk sz v := by
  obtain ⟨b, off, sp, cap, cs, rfl, _, g, _⟩ := h.at h0
  exact .of g
theorem EntsV.take {p : Nat → Prop} {H : AH} {v : Value} {L : List Ent} (h : EntsV p H v L) (h0 : 0 < L.length) {m : Nat} (hm : m ≤ L.length) : ∃ w, slA H 4 (some v) (some (.int .i64 m)) = some (w, H) ∧ EntsV p H w (L.take m) := by
  obtain ⟨w, q1, q2, _⟩ := h.1.sl (Vw.spOk h.1 h0) hm
  have hl : (L.take m).length = m := by rw [List.length_take]; omega
  rw [cellsE_take] at q2
  exact ⟨w, q1, by rw [hl]; exact q2, by have := h.2; omega⟩
theorem cellsE_drop (L : List Ent) (m : Nat) : (cellsE L).drop (m * 4) = cellsE (L.drop m) := by
  induction m generalizing L with
  | zero => simp
  | succ m ih =>
    cases L with
    | nil => simp [cellsE]
    | cons x L =>
      rw [List.drop_succ_cons, ← ih L]
      show (x.cells ++ cellsE L).drop _ = _
      rw [show (m + 1) * 4 = x.cells.length + m * 4 by simp [Ent.cells]; omega, ← List.drop_drop, List.drop_left]
theorem EntsV.drop {p : Nat → Prop} {H : AH} {v : Value} {L : List Ent} (h : EntsV p H v L) (h0 : 0 < L.length) {m : Nat} (hm : m ≤ L.length) : ∃ w, slB H 4 (some v) (some (.int .i64 m)) = some (w, H) ∧ EntsV p H w (L.drop m) := by
  obtain ⟨w, q1, q2, _⟩ := h.1.dr (Vw.spOk h.1 h0) hm
  have hl : (L.drop m).length = L.length - m := by rw [List.length_drop]
  rw [cellsE_drop] at q2
  exact ⟨w, q1, by rw [hl]; exact q2, by have := h.2; omega⟩
def SmI (H : AH) (lv mv : Value) (n k : Nat) (env : Env) (H' : AH) : Prop := H' = H ∧ env 0 = some lv ∧ env 1 = some mv ∧ env 12 = some (.int .i64 n) ∧ env 13 = some (.int .i64 k)
theorem same7_spec {p q : Nat → Prop} {H : AH} {lv mv : Value} {L : List Ent} (hL : EntsV p H lv L) (hM : EntsV q H mv L) : AFn Try.prog F_law07_same [lv, mv] H fun u H' => u = .bool true ∧ H' = H := by
  refine AFn.calm (fun H0 hs => ?_) rfl
  replace hL := hL.same hs
  replace hM := hM.same hs
  refine AFn.enter mixed ir_law07_same_eq (by simp [ir_law07_same]) fun hw => ?_
  obtain ⟨a, c, hlv⟩ := hL.1.slice
  obtain ⟨a', c', hmv⟩ := hM.1.slice
  have hL2 := hL.2
  simp (disch := omega) [-getElem?_pos, if_pos, if_neg, decide_eq_true, decide_eq_false, ir_law07_same, hlv, hmv]
  refine wpC_use (loop_upto L.length (SmI H0 lv mv L.length) (Q := fun e env H' => e = .exit 0 ∧ H' = H0) ⟨rfl, by simp [hlv], by simp [hmv], by simp, by simp⟩ ?_) ?_
  · rintro k env H' hk ⟨rfl, e0, e1, e12, e13⟩
    by_cases hkn : k < L.length
    · obtain ⟨b0, off, sp, cap, cs, rfl, q1, q2⟩ := ents_at hL.1 (by omega)
      obtain ⟨b1, off1, sp1, cap1, cs1, rfl, r1, r2⟩ := ents_at hM.1 (by omega)
      have q3 := q2 k hkn
      have r3 := r2 k hkn
      generalize getE L k = x at *
      simp only [Ent.cells] at q3 r3
      clear q2 r2 hlv hmv
      simp (disch := omega) [-getElem?_pos, if_pos, if_neg, decide_eq_true, decide_eq_false, ir_law07_same_l0, e0, e1, e12, e13, q1, q3, r1, r3, hkn, IntWalk.i64_in]
      refine AFnD.of (of7_spec x) ?_
      simp (disch := omega) [-getElem?_pos, if_pos, if_neg, decide_eq_true, decide_eq_false, e0, e1, e12, e13, eqE_key, IntWalk.i64_in, hkn]
      exact ⟨rfl, by simp [e0], by simp [e1], by simp [e12], by simp⟩
    · obtain rfl : k = L.length := by omega
      simp (disch := omega) [-getElem?_pos, if_pos, if_neg, decide_eq_true, decide_eq_false, ir_law07_same_l0, e0, e1, e12, e13]
  · rintro e env2 H2 ⟨rfl, rfl⟩ _
    simp (disch := omega) [-getElem?_pos, if_pos, if_neg, decide_eq_true, decide_eq_false, ]
def CtI (H : AH) (mv : Value) (M : List Ent) (bd : Int) (k : Nat) (env : Env) (H' : AH) : Prop := WF H' ∧ Keep [] H H' ∧ env 0 = some mv ∧ env 1 = some (.int .i64 bd) ∧ env 8 = some mv ∧ env 9 = some (.int .i64 M.length) ∧ env 10 = some (.int .i64 k)
def CtQ (p : Nat → Prop) (H : AH) (mv : Value) (M : List Ent) (j : Nat) (e : AExit) (env : Env) (H' : AH) : Prop := WF H' ∧ Keep [] H H' ∧ ((e = .exit 0 ∧ j = M.length ∧ env 0 = some mv) ∨ (e = .ret ∧ ∃ w1 w2, env 4 = some w1 ∧ env 5 = some w2 ∧ EntsV p H' w1 (M.take j) ∧ EntsV p H' w2 (M.drop j)))
theorem cut7_spec {p : Nat → Prop} {H : AH} {mv : Value} {M : List Ent} (hM : EntsV p H mv M) {bd : Int} {j : Nat} (hj : j ≤ M.length) (hb : ∀ i, i < j → (getE M i).b < bd) (ha : j < M.length → bd ≤ (getE M j).b) :
    AFn Try.prog F_law07_cut [mv, .int .i64 bd] H fun u H' => Keep [] H H' ∧ ∃ w1 w2, u = .tuple #[w1, w2] ∧ EntsV p H' w1 (M.take j) ∧ EntsV p H' w2 (M.drop j) := by
  refine AFn.enter mixed ir_law07_cut_eq (by simp [ir_law07_cut]) fun hw => ?_
  obtain ⟨a, c, hmv⟩ := hM.1.slice
  have hMl := hM.2
  simp (disch := omega) [-getElem?_pos, if_pos, if_neg, decide_eq_true, decide_eq_false, ir_law07_cut, hmv]
  refine wpC_use (loop_rule (fun k env H' => k ≤ j ∧ CtI H mv M bd (j - k) env H') (Q := CtQ p H mv M j) ?_ (j := j) ⟨Nat.le_refl _, hw, .refl, by simp [hmv], by simp, by simp [hmv], by simp, by simp⟩) ?_
  · rintro k0 env H' ⟨hk0, w', k', e0, e1, e8, e9, e10⟩
    obtain ⟨k, hk⟩ : ∃ k, k = j - k0 := ⟨_, rfl⟩
    rw [← hk] at e10
    by_cases hkn : k < M.length
    · have hM' := hM.kept hw k'
      obtain ⟨b0, off, sp, cap, cs, rfl, q1, q2⟩ := ents_at hM'.1 (by omega)
      have q3 := q2 k hkn
      have h1 := hb k
      have h2 : k = j → bd ≤ (getE M k).b := fun h => by rw [h]; exact ha (by omega)
      generalize getE M k = x at *
      have hb0 := blk0 H' T_secateurref05_Entry
      have kb : Keep [] H' (H'.alloc (.row x.cells T_secateurref05_Entry true)) := .alloc
      have wb := WF.alloc w' (B := .row x.cells T_secateurref05_Entry true)
      have hMb := hM'.kept w' kb
      obtain ⟨w1, s1, t1⟩ := hMb.take (by omega) (m := k) (by omega)
      obtain ⟨w2, s2, t2⟩ := hMb.drop (by omega) (m := k) (by omega)
      simp only [Ent.cells] at q3 kb wb s1 s2 t1 t2
      clear q2 hmv hMb
      by_cases hkj : k = j
      · have h3 := h2 hkj
        have h4 : ¬ x.b < bd := by omega
        simp (disch := omega) [-getElem?_pos, if_pos, if_neg, decide_eq_true, decide_eq_false, ir_law07_cut_l0, e0, e1, e8, e9, e10, q1, q3, writeA_row hb0, over, cutE, hkn, h3, ↓ieval_slhi, ↓ieval_sllo, s1, s2, IntWalk.i64_in]
        rw [hkj] at t1 t2
        exact ⟨wb, k'.trans' kb, .inr ⟨rfl, w1, w2, by simp, by simp, t1, t2⟩⟩
      · have h3 : ¬ bd ≤ x.b := by have := h1 (by omega); omega
        simp (disch := omega) [-getElem?_pos, if_pos, if_neg, decide_eq_true, decide_eq_false, ir_law07_cut_l0, e0, e1, e8, e9, e10, q1, q3, writeA_row hb0, over, cutE, hkn, h3, IntWalk.i64_in]
        exact ⟨k0 - 1, by omega, by omega, wb, k'.trans' kb, by simp [e0], by simp [e1], by simp [e8], by simp [e9], by simp; omega⟩
    · simp (disch := omega) [-getElem?_pos, if_pos, if_neg, decide_eq_true, decide_eq_false, ir_law07_cut_l0, e0, e1, e8, e9, e10, hkn]
      exact ⟨w', k', .inl ⟨rfl, by omega, e0⟩⟩
  · rintro e env2 H2 ⟨w2, k2, ⟨rfl, rfl, e0⟩ | ⟨rfl, w1, w2', e4, e5, t1, t2⟩⟩ _
    · simp (disch := omega) [-getElem?_pos, if_pos, if_neg, decide_eq_true, decide_eq_false, e0]
      exact ⟨k2, mv, .slice none 0 0, ⟨rfl, rfl⟩, hM.kept hw k2, .nil⟩
    · simp (disch := omega) [-getElem?_pos, if_pos, if_neg, decide_eq_true, decide_eq_false, e4, e5]
      exact ⟨k2, w1, w2', ⟨rfl, rfl⟩, t1, t2⟩
end Go.Proofs.Ytgecnmjohhmfjaa
