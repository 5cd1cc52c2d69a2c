/-
  IheapLists: what stands in a heap are its entries, each as often as it was put there, wherever they stand.
-/
import Derived.Test.YtjcncbejnplakaaLaw06d
set_option maxRecDepth 100000
set_option linter.unusedSimpArgs false
set_option linter.unusedVariables false
namespace Go.Proofs.Ytjcncbejnplakaa
open Go Go.Abs

theorem eqE_flat (x y : Ent) : eqAll [(0, none, .int), (1, none, .int), (2, none, .int), (3, none, .int)] [.int .i64 x.b, .int .i64 x.d, .int .i64 x.s, .int .i64 x.i] [.int .i64 y.b, .int .i64 y.d, .int .i64 y.s, .int .i64 y.i] = some (decide (x = y)) := by
  rw [eqAll_cons1 rfl rfl, eqs_int, eqNext_some, eqAll_cons1 rfl rfl, eqs_int, eqNext_some, eqAll_cons1 rfl rfl, eqs_int, eqNext_some, eqAll_cons1 rfl rfl, eqs_int, eqNext_some, eqAll_nil]
  cases x; cases y
  simp only [Ent.mk.injEq, beq_iff_eq]
  repeat' split
  all_goals simp_all
theorem eqE_three (x y : Ent) : eqAll [(0, none, .int), (1, none, .int), (2, none, .int)] [.int .i64 x.b, .int .i64 x.d, .int .i64 x.s] [.int .i64 y.b, .int .i64 y.d, .int .i64 y.s] = some (decide (x.b = y.b ∧ x.d = y.d ∧ x.s = y.s)) := by
  rw [eqAll_cons1 rfl rfl, eqs_int, eqNext_some, eqAll_cons1 rfl rfl, eqs_int, eqNext_some, eqAll_cons1 rfl rfl, eqs_int, eqNext_some, eqAll_nil]
  simp only [beq_iff_eq]
  repeat' split
  all_goals simp_all
theorem eqE_key (x y : Ent) : eqAll [(0, some 3, .node [(0, none, .int), (1, none, .int), (2, none, .int)]), (3, none, .int)] [.int .i64 x.b, .int .i64 x.d, .int .i64 x.s, .int .i64 x.i] [.int .i64 y.b, .int .i64 y.d, .int .i64 y.s, .int .i64 y.i] = some (decide (x = y)) := by
  have h1 : eqAll [(3, none, .int)] [.int .i64 x.b, .int .i64 x.d, .int .i64 x.s, .int .i64 x.i] [.int .i64 y.b, .int .i64 y.d, .int .i64 y.s, .int .i64 y.i] = some (decide (x.i = y.i)) := by
    rw [eqAll_cons1 rfl rfl, eqs_int, eqNext_some, eqAll_nil]
    by_cases h : x.i = y.i <;> simp [h]
  rw [eqAll_cons1 rfl rfl, eqs_node]
  have h2 := eqE_three x y
  rw [show eqAll [(0, none, .int), (1, none, .int), (2, none, .int)] (((List.drop 0 [Value.int IntKind.i64 x.b, .int .i64 x.d, .int .i64 x.s, .int .i64 x.i]).take 3).toArray.toList) (((List.drop 0 [Value.int IntKind.i64 y.b, .int .i64 y.d, .int .i64 y.s, .int .i64 y.i]).take 3).toArray.toList) = _ from h2, eqNext_some, h1]
  cases x; cases y
  simp only [Ent.mk.injEq]
  repeat' split
  all_goals simp_all
theorem sort_take {A : List Ent} {k : Nat} (h : k < A.length) : sortL Ent.lt (A.take (k + 1)) = insL Ent.lt (sortL Ent.lt (A.take k)) (getE A k) := by
  unfold sortL
  rw [List.take_succ_eq_append_getElem h, List.foldl_append, getE_eq h]
  rfl
theorem sort_length (A : List Ent) : (sortL Ent.lt A).length = A.length := (sortL_perm isOrd A).length_eq

def L2I (H : AH) (v hv gv : Value) (A : List Ent) (k : Nat) (env : Env) (H' : AH) : Prop :=
  env 0 = some v ∧ env 4 = some hv ∧ env 5 = some gv ∧ env 7 = some (.slice none 0 0) ∧ env 19 = some (.int .i64 A.length) ∧ env 20 = some (.int .i64 k) ∧ WF H' ∧ Keep [] H H' ∧ ∃ mv, env 6 = some mv ∧ EntsV (fun _ => True) H' mv (sortL Ent.lt (A.take k))
def L1I (H : AH) (hv gv : Value) (A G : List Ent) (k : Nat) (env : Env) (H' : AH) : Prop :=
  env 4 = some hv ∧ env 5 = some gv ∧ env 30 = some gv ∧ env 31 = some (.int .i64 G.length) ∧ env 32 = some (.int .i64 k) ∧ WF H' ∧ Keep [] H H' ∧ ∃ mv nv, env 6 = some mv ∧ env 7 = some nv ∧ EntsV (fun _ => True) H' mv (sortL Ent.lt A) ∧ EntsV (fun _ => True) H' nv (sortL Ent.lt (G.take k))
def L0I (mv nv : Value) (n : Nat) (H : AH) (k : Nat) (env : Env) (H' : AH) : Prop :=
  env 6 = some mv ∧ env 7 = some nv ∧ env 69 = some (.int .i64 n) ∧ env 70 = some (.int .i64 k) ∧ H' = H

theorem Rd.same {H H0 : AH} {sz n : Nat} {v : Value} {cells : List Value} (h : Rd H sz v n cells) (hs : SameC H H0) : Rd H0 sz v n cells := by
  rcases h with h | h | ⟨b, off, cap, cs, h1, h2, h3, h4⟩
  · exact .inl h
  · exact .inr (.inl h)
  · exact .inr <| .inr ⟨b, off, cap, cs, h1, h2, by rw [← h3]; exact hs.2 b, h4⟩

theorem IheapLists_abs {H : AH} {v : Value} {L : List Ent} (h : Rd H 4 v L.length (cellsE L)) : AFn Try.prog F_law06_IheapLists [v] H fun u H' => u = .bool true ∧ H' = H := by
  refine AFn.calm (fun H0 hs => ?_) rfl
  replace h := Rd.same h hs
  refine AFn.enter mixed ir_law06_IheapLists_eq (by simp [ir_law06_IheapLists]) fun hw => ?_
  have hv := h.vw (p := fun _ => True) hw fun _ _ => trivial
  obtain ⟨a, c, rfl⟩ := h.slice
  have hone : ∀ y : Ent, cut [Value.int .i64 y.b, .int .i64 y.d, .int .i64 y.s, .int .i64 y.i] 0 4 = some [Value.int .i64 y.b, .int .i64 y.d, .int .i64 y.s, .int .i64 y.i] := fun _ => rfl
  simp (disch := omega) [-getElem?_pos, if_pos, if_neg, decide_eq_true, decide_eq_false, ir_law06_IheapLists]
  refine (all_spec (m := 60) h (by omega)).mono' fun u H1 w1 ⟨hA, k1⟩ => ?_
  have hAl : (L.take 60).length ≤ 60 ∧ (L.take 60).length ≤ L.length := by rw [List.length_take]; omega
  have hAg : ∀ k, k < (L.take 60).length → getE (L.take 60) k = getE L k := fun k hk => getE_take (by omega)
  generalize L.take 60 = A at *
  obtain ⟨a1, c1, rfl⟩ := hA.1.slice
  simp (disch := omega) [-getElem?_pos, if_pos, if_neg, decide_eq_true, decide_eq_false, ]
  refine (Build_spec hA.1 (by omega)).mono' fun u H2 w2 ⟨q, S, hu, hB, k2, _, _⟩ => ?_
  subst hu
  simp (disch := omega) [-getElem?_pos, if_pos, if_neg, decide_eq_true, decide_eq_false, ]
  refine (List_spec hB.read).mono' fun u H3 w3 ⟨S3, hG, k3, _⟩ => ?_
  have hst := buildL_st A
  have hpm := buildL_perm A
  have hB3 := (hB.kept w2 k3).read
  generalize buildL A = G at *
  have hlen := hpm.length_eq
  have hG3 : EntsV (fun _ => True) H3 u G := ⟨hG.vw fun _ _ => trivial, by omega⟩
  have hv3 := hv.kept hw (k1.trans' (k2.trans' k3))
  obtain ⟨a3, c3, rfl⟩ := hG.slice
  clear hG hB k1 k2 k3
  simp (disch := omega) [-getElem?_pos, if_pos, if_neg, decide_eq_true, decide_eq_false, ]
  refine wpC_use (loop_upto A.length (L2I H3 (.slice a L.length c) (.pointer (some ⟨q, 0, none⟩)) (.slice a3 G.length c3) A) (Q := fun e env H' => e = .exit 0 ∧ L2I H3 (.slice a L.length c) (.pointer (some ⟨q, 0, none⟩)) (.slice a3 G.length c3) A A.length env H')
    ⟨by simp, by simp, by simp, by simp, by simp, by simp, w3, .refl, _, by simp, .nil⟩ ?_) fun e env2 H4 ⟨he, e0, e4, e5, e7, e19, e20, w4, k4, mv, e6, hm⟩ _ => ?_
  · rintro k env H' hk ⟨e0, e4, e5, e7, e19, e20, w', k', mv, e6, hm⟩
    by_cases hkn : k < A.length
    · obtain ⟨b0, off, sp, cap, cs, hsl, q1, q2⟩ := ents_at (hv3.kept w3 k') (by omega)
      cases hsl
      have q3 := q2 k (by omega)
      have hx := hAg k hkn
      have hs := sort_take hkn
      rw [hx] at hs
      have hl := sort_length (A.take k)
      rw [List.length_take] at hl
      generalize getE L k = x at *
      simp only [Ent.cells] at q3
      simp (disch := omega) [-getElem?_pos, if_pos, if_neg, decide_eq_true, decide_eq_false, ir_law06_IheapLists_l2, e0, e4, e5, e6, e7, e19, e20, q1, q3, hone, show (k:Int) < A.length by omega, show (k:Int) < L.length by omega]
      refine (Push5_spec hm x (by omega)).mono' fun u H5 w5 ⟨h5, k5⟩ => ?_
      simp (disch := omega) [-getElem?_pos, if_pos, if_neg, decide_eq_true, decide_eq_false, e0, e4, e5, e7, e19, e20, IntWalk.i64_in]
      exact ⟨hkn, by simp [e0], by simp [e4], by simp [e5], by simp [e7], by simp [e19], by simp, w5, k'.trans' k5, u, by simp, by rw [hs]; exact h5.mono fun _ _ => trivial⟩
    · obtain rfl : k = A.length := by omega
      simp (disch := omega) [-getElem?_pos, if_pos, if_neg, decide_eq_true, decide_eq_false, ir_law06_IheapLists_l2, e0, e19, e20]
      exact ⟨e0, e4, e5, e7, e19, e20, w', k', mv, e6, hm⟩
  subst he
  rw [List.take_of_length_le (Nat.le_refl _)] at hm
  simp (disch := omega) [-getElem?_pos, if_pos, if_neg, decide_eq_true, decide_eq_false, e5, e7]
  refine wpC_use (loop_upto G.length (L1I H4 (.pointer (some ⟨q, 0, none⟩)) (.slice a3 G.length c3) A G) (Q := fun e env H' => e = .exit 2 ∧ L1I H4 (.pointer (some ⟨q, 0, none⟩)) (.slice a3 G.length c3) A G G.length env H')
    ⟨by simp [e4], by simp [e5], by simp, by simp, by simp, w4, .refl, mv, _, by simp [e6], by simp [e7], hm, .nil⟩ ?_) fun e env3 H6 ⟨he, e4, e5, e30, e31, e32, w6, k6, mv, nv, e6, e7, hm, hn⟩ _ => ?_
  · rintro k env H' hk ⟨e4, e5, e30, e31, e32, w', k', mv, nv, e6, e7, hm, hn⟩
    by_cases hkn : k < G.length
    · obtain ⟨b0, off, sp, cap, cs, hsl, q1, q2⟩ := ents_at (hG3.1.kept w3 (k4.trans' k')) (by omega)
      cases hsl
      have q3 := q2 k hkn
      have hs := sort_take hkn
      have hl := sort_length (G.take k)
      rw [List.length_take] at hl
      generalize getE G k = x at *
      have hbn : (H'.alloc (.row [.int .i64 0, .int .i64 0, .int .i64 0, .int .i64 0] T_key_Entry true)).blk H'.next = some (.row [.int .i64 0, .int .i64 0, .int .i64 0, .int .i64 0] T_key_Entry true) := by simp
      have hk2 : Keep [] H' (H'.alloc (entB x)) := .alloc
      simp only [Ent.cells] at q3
      simp (disch := omega) [-getElem?_pos, if_pos, if_neg, decide_eq_true, decide_eq_false, ir_law06_IheapLists_l1, e4, e5, e6, e7, e30, e31, e32, q1, q3, hone, writeA_row hbn, over, show (k:Int) < G.length by omega]
      refine (Push5_spec (hn.kept w' hk2) x (by omega)).mono' fun u H5 w5 ⟨h5, k5⟩ => ?_
      simp (disch := omega) [-getElem?_pos, if_pos, if_neg, decide_eq_true, decide_eq_false, e4, e5, e6, e30, e31, e32, IntWalk.i64_in]
      exact ⟨hkn, by simp [e4], by simp [e5], by simp [e30], by simp [e31], by simp, w5, k'.trans' (hk2.trans' k5), mv, u, by simp [e6], by simp, hm.kept w' (hk2.trans' k5), by rw [hs]; exact h5.mono fun _ _ => trivial⟩
    · obtain rfl : k = G.length := by omega
      simp (disch := omega) [-getElem?_pos, if_pos, if_neg, decide_eq_true, decide_eq_false, ir_law06_IheapLists_l1, e31, e32]
      exact ⟨e4, e5, e30, e31, e32, w', k', mv, nv, e6, e7, hm, hn⟩
  subst he
  rw [List.take_of_length_le (Nat.le_refl _), sortL_eq isOrd hpm] at hn
  have hB6 := hB3.kept w3 (k4.trans' k6)
  have hG6 := hG3.kept w3 (k4.trans' k6)
  have hsl := sort_length A
  generalize sortL Ent.lt A = M at *
  obtain ⟨ma, mc, rfl⟩ := hm.1.slice
  obtain ⟨na, nc, rfl⟩ := hn.1.slice
  simp (disch := omega) [-getElem?_pos, if_pos, if_neg, decide_eq_true, decide_eq_false, e4, e5, e6, e7]
  refine AFn.pure (Len_spec hB6) ?_
  rw [hlen, ← hsl]
  simp (disch := omega) [-getElem?_pos, if_pos, if_neg, decide_eq_true, decide_eq_false, e4, e5, e6, e7]
  refine AFn.pure (stands_spec hG6 hst) ?_
  simp (disch := omega) [-getElem?_pos, if_pos, if_neg, decide_eq_true, decide_eq_false, e4, e5, e6, e7]
  refine wpC_use (loop_upto M.length (L0I (.slice ma M.length mc) (.slice na M.length nc) M.length H6) (Q := fun e env H' => e = .exit 4 ∧ H' = H6)
    ⟨by simp [e6], by simp [e7], by simp, by simp, rfl⟩ ?_) fun e env4 H7 ⟨he, hH⟩ _ => ?_
  · rintro k env H' hk ⟨e6, e7, e69, e70, rfl⟩
    by_cases hkn : k < M.length
    · obtain ⟨b0, off, sp, cap, cs, hsl, q1, q2⟩ := ents_at hm.1 (by omega)
      cases hsl
      obtain ⟨b1, off1, sp1, cap1, cs1, hsl, r1, r2⟩ := ents_at hn.1 (by omega)
      cases hsl
      have q3 := q2 k hkn
      have r3 := r2 k hkn
      generalize getE M k = x at *
      simp only [Ent.cells] at q3 r3
      simp (disch := omega) [-getElem?_pos, if_pos, if_neg, decide_eq_true, decide_eq_false, ir_law06_IheapLists_l0, e6, e7, e69, e70, q1, q3, r1, r3, eqE_flat, IntWalk.i64_in, show (k:Int) < M.length by omega]
      exact ⟨hkn, by simp [e6], by simp [e7], by simp [e69], by simp, rfl⟩
    · obtain rfl : k = M.length := by omega
      simp (disch := omega) [-getElem?_pos, if_pos, if_neg, decide_eq_true, decide_eq_false, ir_law06_IheapLists_l0, e69, e70]
  · subst he hH
    simp (disch := omega) [-getElem?_pos, if_pos, if_neg, decide_eq_true, decide_eq_false, ]
    refine AFn.pure wakes6_spec ?_
    simp (disch := omega) [-getElem?_pos, if_pos, if_neg, decide_eq_true, decide_eq_false, ]
end Go.Proofs.Ytjcncbejnplakaa
