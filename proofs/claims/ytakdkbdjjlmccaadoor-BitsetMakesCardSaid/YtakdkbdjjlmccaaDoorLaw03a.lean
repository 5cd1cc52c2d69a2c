/-
  BitsetMakes: the walk.
-/
import Derived.Test.YtakdkbdjjlmccaaDoorLaw03
set_option maxRecDepth 100000
set_option linter.unusedSimpArgs false
set_option linter.unusedVariables false
namespace Go.Proofs.YtakdkbdjjlmccaaDoor
open Go Go.Abs

def MakesI (H : AH) (n m : Int) (k : Nat) (env : Env) (H' : AH) : Prop :=
  WF H' ∧ Keep [] H H' ∧ H'.cells H.next = some [.int .i64 n, .int .i64 m] ∧ env 14 = some (.slice (some ⟨H.next, 0, none⟩) 2 2) ∧ env 15 = some (.int .i64 2) ∧ env 16 = some (.int .i64 k)

theorem hasB_true (n : Nat) (i : Int) : hasB (List.replicate n true) i = decide (0 ≤ i ∧ i < n) := by
  unfold hasB
  rw [List.getD_eq_getElem?_getD, List.getElem?_replicate]
  by_cases h0 : 0 ≤ i
  · by_cases h1 : i < n
    · rw [if_pos (by omega)]; simp [h0, h1]
    · rw [if_neg (by omega)]; simp [h0, h1]
  · simp [h0]

theorem Makes_spec {H : AH} (hg : GroundA G H) (n : Int) (hn : -9223372036854775808 ≤ n ∧ n ≤ 9223372036854775807) : AFn Tryd.prog F_law03_BitsetMakes [.int .i64 n] H fun u H' => u = .bool true ∧ Keep [] H H' := by
  refine AFn.enter mixed ir_law03_BitsetMakes_eq (by simp [ir_law03_BitsetMakes]) fun hw => ?_
  obtain ⟨m, hm, hmr⟩ : ∃ m : Int, (if n > 0 then n else 0).tmod 300 = m ∧ 0 ≤ m ∧ m < 300 := ⟨_, rfl, by
    split
    · rw [Int.tmod_eq_emod_of_nonneg (by omega)]; omega
    · simp⟩
  simp (disch := omega) [-getElem?_pos, if_pos, if_neg, decide_eq_true, decide_eq_false, ir_law03_BitsetMakes, hm]
  generalize hH1 : H.alloc (.row [.int .i64 n, .int .i64 m] T_int true) = H1
  have hk1 : Keep [] H H1 := by rw [← hH1]; exact .alloc
  have hw1 : WF H1 := by rw [← hH1]; exact hw.alloc
  have hc1 : H1.cells H.next = some [.int .i64 n, .int .i64 m] := by rw [← hH1]; simp
  refine wpC_use (loop_upto 2 (MakesI H n m) (Q := fun e env H' => e = .exit 0 ∧ Keep [] H H' ∧ WF H') ⟨hw1, hk1, hc1, by simp, by simp, by simp⟩ ?_) fun e env2 H4 ⟨he, k4, w4⟩ _ => ?_
  · rintro k env H' hk ⟨w', k', c', e14, e15, e16⟩
    by_cases hkn : k < 2
    · obtain ⟨v, hv, hvr⟩ : ∃ v : Int, [Value.int .i64 n, .int .i64 m][k]? = some (.int .i64 v) ∧ -9223372036854775808 ≤ v ∧ v ≤ 9223372036854775807 := by
        rcases (show k = 0 ∨ k = 1 by omega) with rfl | rfl
        · exact ⟨n, rfl, hn⟩
        · exact ⟨m, rfl, by omega⟩
      generalize hcs : [Value.int .i64 n, .int .i64 m] = cs at *
      simp (disch := omega) [-getElem?_pos, if_pos, if_neg, decide_eq_true, decide_eq_false, ir_law03_BitsetMakes_l0, e14, e15, e16, c', hv]
      refine (New_spec v hvr).mono' fun u H2 w2 ⟨sl, S, hu, o1, k2, hS⟩ => ?_
      subst hu
      obtain ⟨a, c, rfl⟩ := o1.slice
      have hnle : nOk v ≤ 4096 := by unfold nOk sizeOk; split <;> simp at * <;> omega
      have hs2 : SetB (fun _ => True) H2 (.agg #[.int .i64 (nOk v), .slice a (nw (nOk v)) c]) (List.replicate (nOk v) false) := SetO.setB (n := nOk v) (ws := words (List.replicate (nOk v) false)) (S := S) ⟨_, rfl, o1, rfl⟩ (by simp) rfl hnle fun _ _ => trivial
      have hn2 := k2.next
      simp (disch := omega) [-getElem?_pos, if_pos, if_neg, decide_eq_true, decide_eq_false, writeA, cut]
      generalize hH3 : H2.alloc (.row [.int .i64 (nOk v), .slice a (nw (nOk v)) c] T_bitset_Set true) = H3
      have k3 : Keep [] H2 H3 := by rw [← hH3]; exact .alloc
      have w3 : WF H3 := by rw [← hH3]; exact w2.alloc
      have c3 : H3.cells H2.next = some [.int .i64 (nOk v), .slice a (nw (nOk v)) c] := by rw [← hH3]; simp
      have hs3 := hs2.kept w2 k3
      refine (Full_spec v hvr).mono' fun u H5 w5 ⟨sv, hu, hf5, k5⟩ => ?_
      subst hu
      obtain ⟨sl5, rfl, f1, f2⟩ := id hf5
      have c5 := cells_kept w3 k5 c3
      have hs5 := hs3.kept w3 k5
      simp only [List.length_replicate] at f1 f2 ⊢
      simp (disch := omega) [-getElem?_pos, if_pos, if_neg, decide_eq_true, decide_eq_false, writeA, cut]
      generalize hH6 : H5.alloc (.row [.int .i64 (nOk v), sl5] T_bitset_Set true) = H6
      have k6 : Keep [] H5 H6 := by rw [← hH6]; exact .alloc
      have w6 : WF H6 := by rw [← hH6]; exact w5.alloc
      have c6 := cells_kept w5 k6 c5
      have c7 : H6.cells H5.next = some [.int .i64 (nOk v), sl5] := by rw [← hH6]; simp
      have hs6 := hs5.kept w5 k6
      have hf6 := hf5.kept w5 k6
      simp only [List.length_replicate] at hf6
      have kall : Keep [] H H6 := k'.trans' (k2.trans' (k3.trans' (k5.trans' k6)))
      have hg6 := hg.kept hw kall
      have ccs : H6.cells H.next = some cs := cells_kept w5 k6 (cells_kept w3 k5 (cells_kept w2 k3 (cells_kept w' k2 c')))
      by_cases hok : 0 ≤ v ∧ v ≤ 4096
      · have e1 : eOk v = 0 := by simp [eOk, sizeOk, hok]
        have e2 : (nOk v : Int) = v := by simp [nOk, sizeOk, hok]; omega
        generalize nOk v = nn at *
        subst e2
        simp (disch := omega) [-getElem?_pos, if_pos, if_neg, decide_eq_true, decide_eq_false, e1, hok, e14, e15, e16, c6, c7, cut]
        refine AFn.pure (Size_spec hs6) ?_
        simp (disch := omega) [-getElem?_pos, if_pos, if_neg, decide_eq_true, decide_eq_false, e1, hok, e14, e15, e16, c6, c7, cut]
        refine AFn.pure (Size_spec hf6) ?_
        simp (disch := omega) [-getElem?_pos, if_pos, if_neg, decide_eq_true, decide_eq_false, e1, hok, e14, e15, e16, c6, c7, cut]
        refine AFn.pure (Count_spec hs6) ?_
        simp (disch := omega) [-getElem?_pos, if_pos, if_neg, decide_eq_true, decide_eq_false, e1, hok, e14, e15, e16, c6, c7, cut, List.count_replicate]
        refine AFn.pure (Count_spec hf6) ?_
        simp (disch := omega) [-getElem?_pos, if_pos, if_neg, decide_eq_true, decide_eq_false, e1, hok, e14, e15, e16, c6, c7, cut, List.count_replicate, IntWalk.i64_in]
        refine AFn.pure (Has_spec hf6 _) ?_
        rw [hasB_true]
        have hnx : NextIs (List.replicate nn false) (0 : Int).toNat (-1) := .inl ⟨rfl, fun k _ => by rw [List.getD_eq_getElem?_getD, List.getElem?_replicate]; split <;> rfl⟩
        by_cases h0 : 0 < nn
        · simp (disch := omega) [-getElem?_pos, if_pos, if_neg, decide_eq_true, decide_eq_false, e1, hok, e14, e15, e16, c6, c7, cut, List.count_replicate]
          refine AFn.pure (Has_spec hf6 _) ?_
          rw [hasB_true]
          simp (disch := omega) [-getElem?_pos, if_pos, if_neg, decide_eq_true, decide_eq_false, e1, hok, e14, e15, e16, c6, c7, cut, List.count_replicate]
          refine AFn.pure (Next_spec hg6 hs6 0 (-1) hnx) ?_
          simp (disch := omega) [-getElem?_pos, if_pos, if_neg, decide_eq_true, decide_eq_false, e1, hok, e14, e15, e16, c6, c7, cut, List.count_replicate, IntWalk.i64_in]
          exact ⟨hkn, w6, kall, hcs ▸ ccs, by simp [e14], by simp [e15], by simp⟩
        · simp (disch := omega) [-getElem?_pos, if_pos, if_neg, decide_eq_true, decide_eq_false, e1, hok, e14, e15, e16, c6, c7, cut, List.count_replicate]
          refine AFn.pure (Has_spec hf6 _) ?_
          rw [hasB_true]
          simp (disch := omega) [-getElem?_pos, if_pos, if_neg, decide_eq_true, decide_eq_false, e1, hok, e14, e15, e16, c6, c7, cut, List.count_replicate]
          refine AFn.pure (Next_spec hg6 hs6 0 (-1) hnx) ?_
          simp (disch := omega) [-getElem?_pos, if_pos, if_neg, decide_eq_true, decide_eq_false, e1, hok, e14, e15, e16, c6, c7, cut, List.count_replicate, IntWalk.i64_in]
          exact ⟨hkn, w6, kall, hcs ▸ ccs, by simp [e14], by simp [e15], by simp⟩
      · have e1 : eOk v = 2 := by simp [eOk, sizeOk, hok]
        by_cases h0 : 0 ≤ v
        · simp (disch := omega) [-getElem?_pos, if_pos, if_neg, decide_eq_true, decide_eq_false, e1, h0, e14, e15, e16, IntWalk.i64_in]
          exact ⟨hkn, w6, kall, hcs ▸ ccs, by simp [e14], by simp [e15], by simp⟩
        · simp (disch := omega) [-getElem?_pos, if_pos, if_neg, decide_eq_true, decide_eq_false, e1, h0, e14, e15, e16, IntWalk.i64_in]
          exact ⟨hkn, w6, kall, hcs ▸ ccs, by simp [e14], by simp [e15], by simp⟩
    · simp (disch := omega) [-getElem?_pos, if_pos, if_neg, decide_eq_true, decide_eq_false, ir_law03_BitsetMakes_l0, e15, e16]
      exact ⟨k', w'⟩
  · subst he
    simp (disch := omega) [-getElem?_pos, if_pos, if_neg, decide_eq_true, decide_eq_false, ]
    refine AFn.pure (wakes_spec (hg.kept hw k4)) ?_
    simp (disch := omega) [-getElem?_pos, if_pos, if_neg, decide_eq_true, decide_eq_false, ]
    exact k4
end Go.Proofs.YtakdkbdjjlmccaaDoor
