/-
  Layer 4: of; KeyChain.
-/
import Derived.Test.YtjcncbejnplakaaDoorKeyOrd
set_option maxRecDepth 100000
set_option linter.unusedSimpArgs false
set_option linter.unusedVariables false
namespace Go.Proofs.YtjcncbejnplakaaDoor
open Go Go.Abs

theorem eqE_three (x y : Ent) : eqAll [(0, none, .int), (1, none, .int), (2, none, .int)] [.int .i64 x.b, .int .i64 x.d, .int .i64 x.s] [.int .i64 y.b, .int .i64 y.d, .int .i64 y.s] = some (decide (x.b = y.b ∧ x.d = y.d ∧ x.s = y.s)) := by
  rw [eqAll_cons1 rfl rfl, eqs_int, eqNext_some, eqAll_cons1 rfl rfl, eqs_int, eqNext_some, eqAll_cons1 rfl rfl, eqs_int, eqNext_some, eqAll_nil]
  simp only [beq_iff_eq]
  repeat' split
  all_goals simp_all
theorem eqE_key (x y : Ent) : eqAll [(0, some 3, .node [(0, none, .int), (1, none, .int), (2, none, .int)]), (3, none, .int)] [.int .i64 x.b, .int .i64 x.d, .int .i64 x.s, .int .i64 x.i] [.int .i64 y.b, .int .i64 y.d, .int .i64 y.s, .int .i64 y.i] = some (decide (x = y)) := by
  have h1 : eqAll [(3, none, .int)] [.int .i64 x.b, .int .i64 x.d, .int .i64 x.s, .int .i64 x.i] [.int .i64 y.b, .int .i64 y.d, .int .i64 y.s, .int .i64 y.i] = some (decide (x.i = y.i)) := by
    rw [eqAll_cons1 rfl rfl, eqs_int, eqNext_some, eqAll_nil]
    by_cases h : x.i = y.i <;> simp [h]
  rw [eqAll_cons1 rfl rfl, eqs_node]
  have h2 := eqE_three x y
  rw [show eqAll [(0, none, .int), (1, none, .int), (2, none, .int)] (((List.drop 0 [Value.int IntKind.i64 x.b, .int .i64 x.d, .int .i64 x.s, .int .i64 x.i]).take 3).toArray.toList) (((List.drop 0 [Value.int IntKind.i64 y.b, .int .i64 y.d, .int .i64 y.s, .int .i64 y.i]).take 3).toArray.toList) = _ from h2, eqNext_some, h1]
  cases x; cases y
  simp only [Ent.mk.injEq]
  repeat' split
  all_goals simp_all

theorem of4_spec {H : AH} (x : Ent) : AFn Tryd.prog F_law04_of [x.val] H fun u H' => u = x.val ∧ H' = H := by
  refine AFn.calm (fun H0 hs => ?_) rfl
  refine AFn.enter mixed ir_law04_of_eq (by simp [ir_law04_of]) fun hw => ?_
  simp (disch := omega) [-getElem?_pos, if_pos, if_neg, decide_eq_true, decide_eq_false, ir_law04_of, cut, writeA, over]
theorem of4_calm {H : AH} (x : Ent) : CalmCall Tryd.prog (.func (.func F_law04_of) #[] #[]) [x.val] [] H x.val := .pure good_law04_of (fun H1 => of4_spec x) rfl

theorem cmpI_small (p q : Int) : cmpI p q = -1 ∨ cmpI p q = 0 ∨ cmpI p q = 1 := by unfold cmpI; repeat' split <;> omega
theorem keyC_small (x y : Ent) : keyC x y = -1 ∨ keyC x y = 0 ∨ keyC x y = 1 := by
  have h1 := cmpI_small x.b y.b
  have h2 := cmpI_small y.d x.d
  have h3 := cmpI_small x.s y.s
  unfold keyC
  simp only [orI]
  repeat' split
  all_goals omega
theorem KeyChain_abs {H : AH} (x y z : Ent) : AFn Tryd.prog F_law04_KeyChain [x.val, y.val, z.val] H fun u H' => u = .bool true ∧ H' = H := by
  refine AFn.calm (fun H0 hs => ?_) rfl
  refine AFn.enter mixed ir_law04_KeyChain_eq (by simp [ir_law04_KeyChain]) fun hw => ?_
  have hcx : ∀ y : Ent, cut [Value.int .i64 y.b, .int .i64 y.d, .int .i64 y.s, .int .i64 y.i] 0 4 = some [Value.int .i64 y.b, .int .i64 y.d, .int .i64 y.s, .int .i64 y.i] := fun _ => rfl
  simp (disch := omega) [-getElem?_pos, if_pos, if_neg, decide_eq_true, decide_eq_false, ir_law04_KeyChain, hcx]
  refine callM_use (of4_calm x) ?_
  simp (disch := omega) [-getElem?_pos, if_pos, if_neg, decide_eq_true, decide_eq_false, hcx]
  refine callM_use (of4_calm y) ?_
  simp (disch := omega) [-getElem?_pos, if_pos, if_neg, decide_eq_true, decide_eq_false, hcx]
  refine callM_use (of4_calm z) ?_
  have e1 := eqE_key x y
  have hn := keyC_neg x y
  simp (disch := omega) [-getElem?_pos, if_pos, if_neg, decide_eq_true, decide_eq_false, hcx, writeA, over]
  refine AFn.pure (Less_spec x y) ?_
  have hcx3 : ∀ y : Ent, cut [Value.int .i64 y.b, .int .i64 y.d, .int .i64 y.s, .int .i64 y.i] 0 3 = some [Value.int .i64 y.b, .int .i64 y.d, .int .i64 y.s] := fun _ => rfl
  have hr := keyC_small y x
  cases h1 : x.lt y with
  | true =>
    have h4 := lt_asymm h1
    have hne : ¬ x = y := fun h => by rw [h, lt_irrefl] at h1; cases h1
    have e2 : decide (x = y) = false := decide_eq_false hne
    simp (disch := omega) [-getElem?_pos, if_pos, if_neg, decide_eq_true, decide_eq_false, hcx]
    refine AFn.pure (Less_spec y z) ?_
    cases h2 : y.lt z with
    | true =>
      have h3 := lt_trans h1 h2
      simp (disch := omega) [-getElem?_pos, if_pos, if_neg, decide_eq_true, decide_eq_false, hcx]
      refine AFn.pure (Less_spec x z) ?_
      simp (disch := omega) [-getElem?_pos, if_pos, if_neg, decide_eq_true, decide_eq_false, hcx, h3]
      refine AFnD.of wakes4_spec ?_
      simp (disch := omega) [-getElem?_pos, if_pos, if_neg, decide_eq_true, decide_eq_false, hcx, e1]
      refine AFnD.of (Less_spec x y) ?_
      rw [h1]
      simp (disch := omega) [-getElem?_pos, if_pos, if_neg, decide_eq_true, decide_eq_false, hcx, e2]
      refine AFnD.of (Less_spec x y) ?_
      rw [h1]
      simp (disch := omega) [-getElem?_pos, if_pos, if_neg, decide_eq_true, decide_eq_false, hcx]
      refine AFnD.of (Less_spec y x) ?_
      rw [h4]
      simp (disch := omega) [-getElem?_pos, if_pos, if_neg, decide_eq_true, decide_eq_false, hcx, hcx3]
      refine AFnD.of (KeyCompare_spec x y) ?_
      simp (disch := omega) [-getElem?_pos, if_pos, if_neg, decide_eq_true, decide_eq_false, hcx, hcx3]
      refine AFnD.of (KeyCompare_spec y x) ?_
      simp (disch := omega) [-getElem?_pos, if_pos, if_neg, decide_eq_true, decide_eq_false, hcx, hcx3, IntWalk.i64_in]
    | false =>
      simp (disch := omega) [-getElem?_pos, if_pos, if_neg, decide_eq_true, decide_eq_false, hcx]
      refine AFnD.of wakes4_spec ?_
      simp (disch := omega) [-getElem?_pos, if_pos, if_neg, decide_eq_true, decide_eq_false, hcx, e1]
      refine AFnD.of (Less_spec x y) ?_
      rw [h1]
      simp (disch := omega) [-getElem?_pos, if_pos, if_neg, decide_eq_true, decide_eq_false, hcx, e2]
      refine AFnD.of (Less_spec x y) ?_
      rw [h1]
      simp (disch := omega) [-getElem?_pos, if_pos, if_neg, decide_eq_true, decide_eq_false, hcx]
      refine AFnD.of (Less_spec y x) ?_
      rw [h4]
      simp (disch := omega) [-getElem?_pos, if_pos, if_neg, decide_eq_true, decide_eq_false, hcx, hcx3]
      refine AFnD.of (KeyCompare_spec x y) ?_
      simp (disch := omega) [-getElem?_pos, if_pos, if_neg, decide_eq_true, decide_eq_false, hcx, hcx3]
      refine AFnD.of (KeyCompare_spec y x) ?_
      simp (disch := omega) [-getElem?_pos, if_pos, if_neg, decide_eq_true, decide_eq_false, hcx, hcx3, IntWalk.i64_in]
  | false =>
    simp (disch := omega) [-getElem?_pos, if_pos, if_neg, decide_eq_true, decide_eq_false, hcx]
    cases h4 : y.lt x with
    | true =>
      have hne : ¬ x = y := fun h => by rw [h, lt_irrefl] at h4; cases h4
      have e2 : decide (x = y) = false := decide_eq_false hne
      refine AFnD.of wakes4_spec ?_
      simp (disch := omega) [-getElem?_pos, if_pos, if_neg, decide_eq_true, decide_eq_false, hcx, e1]
      refine AFnD.of (Less_spec x y) ?_
      rw [h1]
      simp (disch := omega) [-getElem?_pos, if_pos, if_neg, decide_eq_true, decide_eq_false, hcx, e2]
      refine AFnD.of (Less_spec y x) ?_
      rw [h4]
      simp (disch := omega) [-getElem?_pos, if_pos, if_neg, decide_eq_true, decide_eq_false, hcx, e2]
      refine AFnD.of (Less_spec x y) ?_
      rw [h1]
      simp (disch := omega) [-getElem?_pos, if_pos, if_neg, decide_eq_true, decide_eq_false, hcx, hcx3]
      refine AFnD.of (KeyCompare_spec x y) ?_
      simp (disch := omega) [-getElem?_pos, if_pos, if_neg, decide_eq_true, decide_eq_false, hcx, hcx3]
      refine AFnD.of (KeyCompare_spec y x) ?_
      simp (disch := omega) [-getElem?_pos, if_pos, if_neg, decide_eq_true, decide_eq_false, hcx, hcx3, IntWalk.i64_in]
    | false =>
      have e2 : decide (x = y) = true := decide_eq_true (lt_total h1 h4)
      refine AFnD.of wakes4_spec ?_
      simp (disch := omega) [-getElem?_pos, if_pos, if_neg, decide_eq_true, decide_eq_false, hcx, e1]
      refine AFnD.of (Less_spec x y) ?_
      rw [h1]
      simp (disch := omega) [-getElem?_pos, if_pos, if_neg, decide_eq_true, decide_eq_false, hcx, e2]
      refine AFnD.of (Less_spec y x) ?_
      rw [h4]
      simp (disch := omega) [-getElem?_pos, if_pos, if_neg, decide_eq_true, decide_eq_false, hcx, e2]
      refine AFnD.of (Less_spec x y) ?_
      rw [h1]
      simp (disch := omega) [-getElem?_pos, if_pos, if_neg, decide_eq_true, decide_eq_false, hcx, hcx3]
      refine AFnD.of (KeyCompare_spec x y) ?_
      simp (disch := omega) [-getElem?_pos, if_pos, if_neg, decide_eq_true, decide_eq_false, hcx, hcx3]
      refine AFnD.of (KeyCompare_spec y x) ?_
      simp (disch := omega) [-getElem?_pos, if_pos, if_neg, decide_eq_true, decide_eq_false, hcx, hcx3, IntWalk.i64_in]
end Go.Proofs.YtjcncbejnplakaaDoor
