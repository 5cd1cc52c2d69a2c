/-
  The document's Best; BruteBest: the walk.
-/
import Derived.Test.YtlcddhgfkkjhkaaRef12
import Derived.Test.YtlcddhgfkkjhkaaEq13
import Derived.Test.YtlcddhgfkkjhkaaWakes
import Derived.Test.YtlcddhgfkkjhkaaBrute9
import Derived.Test.YtlcddhgfkkjhkaaRef13
set_option maxRecDepth 100000
set_option linter.unusedSimpArgs false
set_option linter.unusedVariables false
namespace Go.Proofs.Ytlcddhgfkkjhkaa
open Go Go.Abs
def B13I (H1 : AH) (q n0 : Nat) (lv : Value) (x : InstD) (k : Nat) (env : Env) (H' : AH) : Prop :=
  H' = H1 ∧ env 1 = some (.pointer (some ⟨q, 0, none⟩)) ∧ env 8 = some lv ∧ env 12 = some (.int .i64 k) ∧ env 10 = some (.int .i64 (bC (bestK x k))) ∧ env 11 = some (.bool (bestK x k).isSome) ∧ ∃ bv, env 9 = some bv ∧ SlV (fun b => n0 ≤ b ∧ b < H1.next) H1 bv (bL (bestK x k))
def B13Q (H1 : AH) (n0 C : Nat) (x : InstD) (e : AExit) (env : Env) (H' : AH) : Prop :=
  H' = H1 ∧ e = .exit 0 ∧ env 10 = some (.int .i64 (bC (bestK x C))) ∧ env 11 = some (.bool (bestK x C).isSome) ∧ ∃ bv, env 9 = some bv ∧ SlV (fun b => n0 ≤ b ∧ b < H1.next) H1 bv (bL (bestK x C))
theorem best13_l0 {H1 : AH} {q n0 C : Nat} {lv : Value} {x : InstD} {iv cv sv : Value} (hq : H1.cells q = some (instC x iv cv sv)) (hx : InstV (fun _ => True) H1 (.agg (instC x iv cv sv).toArray) x) (hL : SlV (fun b => n0 ≤ b ∧ b < H1.next) H1 lv ((List.range C).map x.at)) (hC : C ≤ 1048576) {env : Env} (h : B13I H1 q n0 lv x 0 env H1) :
    wpC Try.prog 59 (.loop ir_ref13_Best_l0) (B13Q H1 n0 C x) env H1 := by
  refine loop_upto C (B13I H1 q n0 lv x) (Q := B13Q H1 n0 C x) h ?_
  obtain ⟨L, hLL⟩ : ∃ L, L = (List.range C).map x.at := ⟨_, rfl⟩
  have hll : L.length = C := by rw [hLL]; simp
  rw [← hLL] at hL
  obtain ⟨la, lc, rfl⟩ := hL.slice
  rintro k env H' hk ⟨rfl, e1, e8, e12, e10, e11, bv, e9, hbv⟩
  by_cases hkn : k < C
  · obtain ⟨b0, off, sp, cap, cs, hcv, q1, q2⟩ := rows_rd hL (by rw [hll]; omega)
    obtain ⟨w, q3, q4⟩ := q2 k (by rw [hll]; exact hkn)
    cases hcv
    have hLk : L[k]'(by omega) = x.at k := by subst hLL; simp
    rw [hLk] at q4
    have hkL : k < L.length := by omega
    have hcost := Cost12_spec hx q4.any
    have hst : bestK x (k + 1) = bestS x (bestK x k) (x.at k) := rfl
    have hwc := q4.cell
    have hbc := hbv.cell
    unfold bestS at hst
    have stay : bestK x (k + 1) = bestK x k → ∀ env2 : Env, env2 1 = env 1 → env2 8 = env 8 → env2 12 = some (.int .i64 ((k : Int) + 1)) → env2 10 = env 10 → env2 11 = env 11 → env2 9 = env 9 → B13I H' q n0 (.slice (some ⟨b0, off, sp⟩) L.length lc) x (k + 1) env2 H' := fun he env2 g1 g8 g12 g10 g11 g9 =>
      ⟨rfl, by rw [g1, e1], by rw [g8, e8], by rw [g12]; simp, by rw [g10, e10, he], by rw [g11, e11, he], bv, by rw [g9, e9], by rw [he]; exact hbv⟩
    have move : bestK x (k + 1) = some (x.at k, x.costOf (x.at k)) → ∀ env2 : Env, env2 1 = env 1 → env2 8 = env 8 → env2 12 = some (.int .i64 ((k : Int) + 1)) → env2 10 = some (.int .i64 (x.costOf (x.at k))) → env2 11 = some (.bool true) → env2 9 = some w → B13I H' q n0 (.slice (some ⟨b0, off, sp⟩) L.length lc) x (k + 1) env2 H' := fun he env2 g1 g8 g12 g10 g11 g9 =>
      ⟨rfl, by rw [g1, e1], by rw [g8, e8], by rw [g12]; simp, by rw [g10, he]; rfl, by rw [g11, he]; rfl, w, g9, by rw [he]; exact q4⟩
    simp (disch := omega) [-getElem?_pos, if_pos, if_neg, decide_eq_true, decide_eq_false, ir_ref13_Best_l0, e1, e8, e12, hq, inst_cut, q1, q3, hkL, hwc.1, hwc.2]
    refine AFnD.of hcost ?_
    by_cases hE : x.valueE (x.at k) = 0
    · by_cases hN : (bestK x k).isSome = true
      · have hNn : (bestK x k).isNone = false := by cases h : bestK x k <;> simp_all
        rw [hN] at e11
        by_cases hlt : x.costOf (x.at k) < bC (bestK x k)
        · rw [if_pos ⟨hE, .inr hlt⟩] at hst
          have mv := move hst
          clear move stay hst
          generalize bC (bestK x k) = bc at *
          generalize x.costOf (x.at k) = cc at *
          simp (disch := omega) [-getElem?_pos, if_pos, if_neg, decide_eq_true, decide_eq_false, hE, e8, e9, e10, e11, e12, hlt, q1, q3, hkL, IntWalk.i64_in]
          exact ⟨hkn, mv _ (by simp) (by simp) (by simp) (by simp) (by simp) (by simp)⟩
        · rw [if_neg (fun h => by rcases h.2 with h | h; rw [hNn] at h; cases h; exact hlt h)] at hst
          have sv := stay hst
          clear move stay hst
          generalize bC (bestK x k) = bc at *
          generalize x.costOf (x.at k) = cc at *
          simp (disch := omega) [-getElem?_pos, if_pos, if_neg, decide_eq_true, decide_eq_false, hE, e8, e9, e10, e11, e12, hlt, IntWalk.i64_in]
          exact ⟨hkn, sv _ (by simp) (by simp) (by simp) (by simp) (by simp) (by simp)⟩
      · have hN' : (bestK x k).isSome = false := by simpa using hN
        have hNn : (bestK x k).isNone = true := by cases h : bestK x k <;> simp_all
        rw [hN'] at e11
        rw [if_pos ⟨hE, .inl hNn⟩] at hst
        have mv := move hst
        clear move stay hst
        generalize bC (bestK x k) = bc at *
        generalize x.costOf (x.at k) = cc at *
        simp (disch := omega) [-getElem?_pos, if_pos, if_neg, decide_eq_true, decide_eq_false, hE, e8, e9, e10, e11, e12, q1, q3, hkL, IntWalk.i64_in]
        exact ⟨hkn, mv _ (by simp) (by simp) (by simp) (by simp) (by simp) (by simp)⟩
    · rw [if_neg (fun h => hE h.1)] at hst
      have sv := stay hst
      have hEF := eq_false hE
      clear move stay hst
      generalize bC (bestK x k) = bc at *
      generalize x.costOf (x.at k) = cc at *
      simp (disch := omega) [-getElem?_pos, if_pos, if_neg, decide_eq_true, decide_eq_false, hEF, e8, e9, e10, e11, e12, IntWalk.i64_in]
      exact ⟨hkn, sv _ (by simp) (by simp) (by simp) (by simp) (by simp) (by simp)⟩
  · obtain rfl : k = C := by omega
    have hkL : ¬ k < L.length := by omega
    simp (disch := omega) [-getElem?_pos, if_pos, if_neg, decide_eq_true, decide_eq_false, ir_ref13_Best_l0, e8, e12, hkL]
    exact ⟨rfl, rfl, e10, e11, bv, e9, hbv⟩
theorem Best13_spec {H : AH} {v : Value} {x : InstD} {C : Nat} (hx : InstV (fun b => b < H.next) H v x) (hE : x.countE = 0) (hC : x.count = (C : Int)) (hC2 : C ≤ 1048576) :
    AFn Try.prog F_ref13_Best [v] H fun u H' => ∃ w, u = .tuple #[w, .int .i64 (bC x.best), .bool x.best.isSome, .int .i64 0] ∧ SlV (New H H') H' w (bL x.best) ∧ Keep [] H H' := by
  have hb : x.best = bestK x C := by unfold InstD.best; rw [hC]; rfl
  rw [hb]
  obtain ⟨iv, cv, sv, rfl, i1, i2, i3, h1, h2, h3⟩ := id hx
  refine AFn.enter mixed ir_ref13_Best_eq (by simp [ir_ref13_Best]) fun hw => ?_
  simp (disch := omega) [-getElem?_pos, if_pos, if_neg, decide_eq_true, decide_eq_false, ir_ref13_Best, inst_cut]
  generalize hH1 : AH.alloc H _ = H1
  have k1 : Keep [] H H1 := by rw [← hH1]; exact .alloc
  have w1 : WF H1 := by rw [← hH1]; exact hw.alloc
  have n1 : H1.next = H.next + 1 := by rw [← hH1]; simp
  have c1 : H1.cells H.next = some (instC x iv cv sv) := by rw [← hH1]; simp
  clear hH1
  have hx1 := (hx.kept hw k1).up (q := fun b => b < H1.next) (fun b hb => by omega) .refl
  generalize hq1 : H.next = q1 at *
  refine AFn.pure (Count13_spec hx1) ?_
  simp (disch := omega) [-getElem?_pos, if_pos, if_neg, decide_eq_true, decide_eq_false, hE, c1, inst_cut]
  refine (All13_spec hx1 hE hC).mono' fun l H2 w2 ⟨S, hL, k2, hS⟩ => ?_
  have n2 := k2.next
  obtain ⟨la, lc, rfl⟩ := hL.slice
  have hll : ((List.range C).map x.at).length = C := by simp
  have hL2 : SlV (fun b => q1 ≤ b ∧ b < H2.next) H2 (.slice la ((List.range C).map x.at).length lc) ((List.range C).map x.at) := hL.slv (fun b h => ⟨by have := h.1; omega, h.2.1⟩) (fun b hb => ⟨by have := hS b hb; omega, hL.lt w2 b hb⟩) (by omega)
  simp (disch := omega) [-getElem?_pos, if_pos, if_neg, decide_eq_true, decide_eq_false, ]
  refine wpC_use (best13_l0 (q := q1) (C := C) (cells_kept w1 k2 c1) (hx1.kept w1 k2).any hL2 hC2 ⟨rfl, by simp, by simp, by simp, by simp [bestK, bC], by simp [bestK], .slice none 0 0, by simp, SlV.nil⟩) ?_
  rintro e env2 H3 ⟨rfl, rfl, f10, f11, bv, f9, hbv⟩ hu
  generalize bestK x C = a at *
  have hc := hbv.cell
  simp (disch := omega) [-getElem?_pos, if_pos, if_neg, decide_eq_true, decide_eq_false, f9, f10, f11, hc]
  refine ⟨?_, k1.trans' k2⟩
  unfold New
  rw [hq1]; exact hbv
theorem BruteBest_abs {H : AH} {v : Value} {x : InstD} (hx : InstV (fun b => b < H.next) H v x) : AFn Try.prog F_law13_BruteBest [v] H fun u H' => u = .bool true ∧ H' = H := by
  refine AFn.calm (fun H0 hs => ?_) rfl
  have hn0 : H0.next = H.next := hs.1
  have hx0 := (hx.same hs).up (q := fun b => b < H0.next) (fun b hb => by omega) .refl
  obtain ⟨iv, cv, sv, rfl, i1, i2, i3, h1, h2, h3⟩ := id hx0
  refine AFn.enter mixed ir_law13_BruteBest_eq (by simp [ir_law13_BruteBest]) fun hw => ?_
  simp (disch := omega) [-getElem?_pos, if_pos, if_neg, decide_eq_true, decide_eq_false, ir_law13_BruteBest, inst_cut]
  generalize hH1 : AH.alloc H0 _ = H1
  have k1 : Keep [] H0 H1 := by rw [← hH1]; exact .alloc
  have w1 : WF H1 := by rw [← hH1]; exact hw.alloc
  have n1 : H1.next = H0.next + 1 := by rw [← hH1]; simp
  clear hH1
  have hx1 := (hx0.kept hw k1).up (q := fun b => b < H1.next) (fun b hb => by omega) .refl
  refine (show AFn _ _ [_, .int .i64 ((7 : Nat) : Int)] _ _ from (tame_spec (m := 7) (by omega) (by omega) hx1)).mono' fun u H2 w2 ⟨y, hy, ht, k2⟩ => ?_
  have n2 := k2.next
  obtain ⟨hE, C, hC, hC1, hC2⟩ := tame_count (by omega) ht
  have hy2 : InstV (fun b => b < H2.next) H2 u y := hy.up (fun b hb => hb.2) .refl
  simp (disch := omega) [-getElem?_pos, if_pos, if_neg, decide_eq_true, decide_eq_false, ]
  refine (insts_spec hy2).mono' fun u3 H3 w3 ⟨a, b, hu, ha, hb, k3⟩ => ?_
  rw [clip_tame (by omega) ht] at ha hb
  subst hu
  have n3 := k3.next
  obtain ⟨ia, ca, sa, rfl, _⟩ := id ha
  obtain ⟨ib, cb, sb, rfl, _⟩ := id hb
  simp (disch := omega) [-getElem?_pos, if_pos, if_neg, decide_eq_true, decide_eq_false, writeA, over, inst_cut]
  generalize hH4 : AH.set (AH.set _ _ _) _ _ = H4
  have k4 : Keep [] H3 H4 := by rw [← hH4]; exact .new_set (by omega) (.new_set (by omega) (.new_alloc .alloc))
  have w4 : WF H4 := by rw [← hH4]; refine WF.set (WF.set (WF.alloc (WF.alloc w3)) ?_) ?_ <;> simp <;> omega
  have c7 : H4.cells (H3.next + 1) = some (instC y ib cb sb) := by rw [← hH4]; simp
  have n4 : H4.next = H3.next + 2 := by rw [← hH4]; simp
  clear hH4
  have hxa4 : InstV (fun b => b < H4.next) H4 (.agg (instC y ia ca sa).toArray) y := ha.up (fun b hb => by have := hb.2; omega) (.kept w3 k4)
  have hxb4 : InstV (fun b => b < H4.next) H4 (.agg (instC y ib cb sb).toArray) y := hb.up (fun b hb => by have := hb.2; omega) (.kept w3 k4)
  refine (Best_spec hxa4 hE hC).mono' fun u H5 w5 ⟨wa, hu, hA, k5⟩ => ?_
  subst hu
  have n5 := k5.next
  have c75 := cells_kept w4 k5 c7
  simp (disch := omega) [-getElem?_pos, if_pos, if_neg, decide_eq_true, decide_eq_false, c75, inst_cut]
  refine (Best13_spec (hxb4.kept w4 k5 |>.up (q := fun b => b < H5.next) (fun b hb => by omega) .refl) hE hC hC2).mono' fun u H6 w6 ⟨wb, hu, hB, k6⟩ => ?_
  subst hu
  have hA6 := (hA.kept w5 k6).any
  have hcA := hA.cell
  have hcB := hB.cell
  simp (disch := omega) [-getElem?_pos, if_pos, if_neg, decide_eq_true, decide_eq_false, ]
  refine AFn.pure wakes13_spec ?_
  simp (disch := omega) [-getElem?_pos, if_pos, if_neg, decide_eq_true, decide_eq_false, hcA, hcB]
  refine AFn.pure (equal13_spec hA6 hB.any) ?_
  simp (disch := omega) [-getElem?_pos, if_pos, if_neg, decide_eq_true, decide_eq_false, ]
end Go.Proofs.Ytlcddhgfkkjhkaa
