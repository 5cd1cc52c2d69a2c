/-
  The document's Bound.
-/
import Derived.Test.YtejifalflkbekaaDoorDs8
set_option maxRecDepth 100000
set_option linter.unusedSimpArgs false
set_option linter.unusedVariables false
namespace Go.Proofs.YtejifalflkbekaaDoor
open Go Go.Abs Go.Proofs.YtejifalflkbekaaDoor.Bs
def R1I (H1 : AH) (tv lv xv : Value) (T : List Bool) (X : List Int) (k : Nat) (env : Env) (H' : AH) : Prop :=
  H' = H1 ∧ env 0 = some tv ∧ env 1 = some lv ∧ env 2 = some xv ∧ env 10 = some (.int .i64 k) ∧ env 9 = some (.int .i64 (X.take k).sum) ∧ allP T X k = true
def R1Q (H1 : AH) (lv xv : Value) (T : List Bool) (X : List Int) (x : AExit) (env : Env) (H' : AH) : Prop :=
  (x = .exit 0 ∧ H' = H1 ∧ env 1 = some lv ∧ env 2 = some xv ∧ env 9 = some (.int .i64 X.sum) ∧ allP T X X.length = true) ∨ (x = .ret ∧ env 6 = some (.int .i64 0) ∧ env 7 = some (.bool false) ∧ allP T X X.length = false)
theorem sum_pre {T : List Bool} {X : List Int} : ∀ k, k ≤ X.length → allP T X k = true → 0 ≤ (X.take k).sum ∧ (X.take k).sum ≤ (k : Int) * 2147483648
  | 0, _, _ => by simp
  | k + 1, hk, h => by
    rw [allP_succ, Bool.and_eq_true] at h
    have := sum_pre k (by omega) h.1
    have h2 := h.2
    unfold okP at h2
    simp only [Bool.and_eq_true, decide_eq_true_eq] at h2
    rw [sum_take (by omega)]
    omega
theorem boundR_l1 {p p' : Nat → Prop} {H1 : AH} {tv lv xv : Value} {T : List Bool} {X : List Int} (hX : SlV p H1 xv X) (hT : SlV p' H1 tv T) (hn : X.length = T.length) (hl : X.length ≤ 1000) {env : Env} (h : R1I H1 tv lv xv T X 0 env H1) :
    wpC Tryd.prog 84 (.loop ir_ref18_Bound_l1) (R1Q H1 lv xv T X) env H1 := by
  refine loop_upto X.length (R1I H1 tv lv xv T X) (Q := R1Q H1 lv xv T X) h ?_
  rintro k env H' hk ⟨rfl, e0, e1, e2, e10, e9, hall⟩
  obtain ⟨xa, xc, hxv⟩ := hX.slice
  by_cases hkn : k < X.length
  · obtain ⟨b0, off, sp, cap, cs, hv, q1, q2⟩ := ints_rd hX (by omega)
    obtain ⟨q3, i3⟩ := q2 k hkn
    obtain ⟨b1, off1, sp1, cap1, cs1, hv1, p1, p2⟩ := bools_rd hT (by omega)
    have p3 := p2 k (by omega)
    have hg : X.getD k 0 = X[k] := by rw [List.getD_eq_getElem?_getD, List.getElem?_eq_getElem hkn]; rfl
    have hgt : T.getD k false = T[k]'(by omega) := by rw [List.getD_eq_getElem?_getD, List.getElem?_eq_getElem (by omega)]; rfl
    have hsu := allP_succ (T := T) (X := X) (k := k)
    have hfl := fun h => allP_false (T := T) (X := X) (k := k) (n := X.length) h hkn
    have hp1 := okP_neg (T := T) (X := X) (i := k)
    have hp2 := okP_far (T := T) (X := X) (i := k)
    have hp3 := okP_zero (T := T) (X := X) (i := k)
    have hp4 := okP_pos (T := T) (X := X) (i := k)
    have hst := sum_take hkn
    have hsp := sum_pre (T := T) k (by omega) hall
    rw [hg] at hp1 hp2 hp3 hp4 hst
    rw [hgt] at hp4
    rw [hall, Bool.true_and] at hsu
    subst hv hv1
    have hkT : k < T.length := by omega
    have hkT' : (k : Int) < (T.length : Int) := by omega
    have hkX' : (k : Int) < (X.length : Int) := by omega
    generalize X[k] = x at *
    generalize T[k]'(by omega) = tk at *
    generalize (X.take k).sum = s at *
    have hk1000 : (k : Int) ≤ 1000 := by omega
    by_cases h1 : x < 0
    · simp (disch := omega) [-getElem?_pos, if_pos, if_neg, decide_eq_true, decide_eq_false, ir_ref18_Bound_l1, e0, e1, e2, e9, e10, hkn, hkX', q1, q3, h1]
      exact .inr ⟨rfl, by simp, by simp, hfl (hp1 h1)⟩
    · by_cases h2 : 2147483648 < x
      · simp (disch := omega) [-getElem?_pos, if_pos, if_neg, decide_eq_true, decide_eq_false, ir_ref18_Bound_l1, e0, e1, e2, e9, e10, hkn, hkX', q1, q3, h1, h2]
        exact .inr ⟨rfl, by simp, by simp, hfl (hp2 h2)⟩
      · have hw1 : IntKind.i64.wrap (s + x) = s + x := IntWalk.i64_in _ (by omega)
        by_cases h3 : x = 0
        · have hp := hp3 h3
          cases tk with
          | true =>
            simp (disch := omega) [-getElem?_pos, if_pos, if_neg, decide_eq_true, decide_eq_false, ir_ref18_Bound_l1, e0, e1, e2, e9, e10, hkn, hkX', hkT, hkT', q1, q3, p1, p3, h1, h2, hw1, IntWalk.i64_in]
            exact ⟨rfl, by simp [e0], by simp [e1], by simp [e2], by simp, by simp [hst], by rw [hsu, hp]⟩
          | false =>
            simp (disch := omega) [-getElem?_pos, if_pos, if_neg, decide_eq_true, decide_eq_false, ir_ref18_Bound_l1, e0, e1, e2, e9, e10, hkn, hkX', hkT, hkT', q1, q3, p1, p3, h1, h2, h3, hw1, IntWalk.i64_in]
            exact ⟨rfl, by simp [e0], by simp [e1], by simp [e2], by simp, by simp [hst, h3], by rw [hsu, hp]⟩
        · have hp := hp4 (by omega) (by omega)
          cases tk with
          | true =>
            simp (disch := omega) [-getElem?_pos, if_pos, if_neg, decide_eq_true, decide_eq_false, ir_ref18_Bound_l1, e0, e1, e2, e9, e10, hkn, hkX', hkT, hkT', q1, q3, p1, p3, h1, h2, hw1, IntWalk.i64_in]
            exact ⟨rfl, by simp [e0], by simp [e1], by simp [e2], by simp, by simp [hst], by rw [hsu, hp]⟩
          | false =>
            simp (disch := omega) [-getElem?_pos, if_pos, if_neg, decide_eq_true, decide_eq_false, ir_ref18_Bound_l1, e0, e1, e2, e9, e10, hkn, hkX', hkT, hkT', q1, q3, p1, p3, h1, h2, h3, hw1, IntWalk.i64_in]
            exact .inr ⟨rfl, by simp, by simp, hfl hp⟩
  · obtain rfl : k = X.length := by omega
    rw [List.take_length] at e9
    subst hxv
    simp (disch := omega) [-getElem?_pos, if_pos, if_neg, decide_eq_true, decide_eq_false, ir_ref18_Bound_l1, e2, e10]
    exact .inl ⟨rfl, rfl, e1, e2, e9, hall⟩
def R0I (H1 : AH) (lv xv : Value) (L : List SetD) (X : List Int) (s : Int) (k : Nat) (env : Env) (H' : AH) : Prop :=
  H' = H1 ∧ env 1 = some lv ∧ env 2 = some xv ∧ env 9 = some (.int .i64 s) ∧ env 11 = some (.int .i64 k) ∧ (L.take k).all (fairS X) = true
def R0Q (L : List SetD) (X : List Int) (s : Int) (x : AExit) (env : Env) (H' : AH) : Prop :=
  (x = .exit 2 ∧ env 9 = some (.int .i64 s) ∧ L.all (fairS X) = true) ∨ (x = .ret ∧ env 6 = some (.int .i64 0) ∧ env 7 = some (.bool false) ∧ L.all (fairS X) = false)
theorem boundR_l0 {p p' : Nat → Prop} {H1 : AH} {lv xv : Value} {L : List SetD} {X : List Int} {n : Nat} {s : Int} (hX : SlV p H1 xv X) (hL : SlV p' H1 lv L) (hD : DOk n L) (hn : X.length = n) (hb : ∀ i, 0 ≤ X.getD i 0 ∧ X.getD i 0 ≤ 2147483648) (hl : L.length ≤ 30) (hel : ∀ s ∈ L, s.elems.length ≤ 30) {env : Env} (h : R0I H1 lv xv L X s 0 env H1) :
    wpC Tryd.prog 84 (.loop ir_ref18_Bound_l0) (R0Q L X s) env H1 := by
  refine loop_upto L.length (R0I H1 lv xv L X s) (Q := R0Q L X s) h ?_
  rintro k env H' hk ⟨rfl, e1, e2, e9, e11, hall⟩
  obtain ⟨la, lc, hlv⟩ := hL.slice
  by_cases hkn : k < L.length
  · obtain ⟨b0, off, sp, cap, cs, hv, q1, q2⟩ := sets_rd hL (by omega)
    obtain ⟨ev, q3, q4, q5, q6, q7⟩ := q2 k hkn
    have hsl := hel L[k] (List.getElem_mem hkn)
    have hin := rises_mem (hD.rise L[k] (List.getElem_mem hkn))
    have hsu := all_take (X := X) hkn
    rw [hall, Bool.true_and] at hsu
    have hff : fairS X L[k] = false → L.all (fairS X) = false := fun h => List.all_eq_false.2 ⟨L[k], List.getElem_mem hkn, by rw [h]; simp⟩
    have hsp := spentR_spec (c := L[k].cost) q7 hX (by omega) (fun x hx => by have := hin x hx; rw [hn]; omega) (fun i => by have := hb i; omega)
    have hfs : fairS X L[k] = decide (spentP X L[k].elems ≤ L[k].cost) := rfl
    generalize spentP X L[k].elems = z at *
    generalize L[k].cost = c0 at *
    obtain ⟨xa, xc, rfl⟩ := hX.slice
    subst hv
    by_cases hz : c0 < z
    · have hfb : fairS X L[k] = false := by rw [hfs]; exact decide_eq_false (by omega)
      simp (disch := omega) [-getElem?_pos, if_pos, if_neg, decide_eq_true, decide_eq_false, ir_ref18_Bound_l0, e1, e2, e9, e11, hkn, q1, q3, q4]
      refine AFn.pure hsp ?_
      simp (disch := omega) [-getElem?_pos, if_pos, if_neg, decide_eq_true, decide_eq_false, e1, e2, e9, e11, hkn, q1, q3, q4, hz]
      exact .inr ⟨rfl, by simp, by simp, hff hfb⟩
    · have hfb : fairS X L[k] = true := by rw [hfs]; exact decide_eq_true (by omega)
      simp (disch := omega) [-getElem?_pos, if_pos, if_neg, decide_eq_true, decide_eq_false, ir_ref18_Bound_l0, e1, e2, e9, e11, hkn, q1, q3, q4]
      refine AFn.pure hsp ?_
      simp (disch := omega) [-getElem?_pos, if_pos, if_neg, decide_eq_true, decide_eq_false, e1, e2, e9, e11, hkn, q1, q3, q4, hz, IntWalk.i64_in]
      exact ⟨rfl, by simp [e1], by simp [e2], by simp [e9], by simp, by rw [hsu, hfb]⟩
  · obtain rfl : k = L.length := by omega
    rw [List.take_length] at hall
    subst hlv
    simp (disch := omega) [-getElem?_pos, if_pos, if_neg, decide_eq_true, decide_eq_false, ir_ref18_Bound_l0, e1, e11]
    exact .inl ⟨rfl, e9, hall⟩
theorem BoundR_spec {p p' p'' : Nat → Prop} {H : AH} {tv lv xv : Value} {L : List SetD} {T : List Bool} {X : List Int} (hT : SlV p H tv T) (hL : SlV p' H lv L) (hX : SlV p'' H xv X) (hn : T.length ≤ 12) (hXl : X.length ≤ 1000) (hl : L.length ≤ 30) (hel : ∀ s ∈ L, s.elems.length ≤ 30) : AFn Tryd.prog F_ref18_Bound [tv, lv, xv] H fun u H' => u = bdV L T X ∧ H' = H := by
  refine AFn.calm (fun H0 hsm => ?_) rfl
  have hT0 := hT.same hsm
  have hL0 := hL.same hsm
  have hX0 := hX.same hsm
  clear hT hL hX
  obtain ⟨ta, tc, rfl⟩ := hT0.slice
  obtain ⟨la, lc, rfl⟩ := hL0.slice
  obtain ⟨xa, xc, rfl⟩ := hX0.slice
  refine AFn.enter mixed ir_ref18_Bound_eq (by simp [ir_ref18_Bound]) fun hw => ?_
  obtain ⟨ap, hap⟩ : ∃ b, b = allP T X X.length := ⟨_, rfl⟩
  obtain ⟨lf, hlf⟩ : ∃ b, b = L.all (fairS X) := ⟨_, rfl⟩
  have hbd : bdA L T X = (mayD T.length L && (decide (X.length = T.length) && (ap && lf))) := by rw [hap, hlf]; rfl
  unfold bdV
  rw [hbd]
  simp (disch := omega) [-getElem?_pos, if_pos, if_neg, decide_eq_true, decide_eq_false, ir_ref18_Bound]
  refine AFn.pure (mayR_spec (n := (T.length : Int)) (by unfold I64; omega) hL0) ?_
  cases hm : mayD T.length L with
  | false => simp (disch := omega) [-getElem?_pos, if_pos, if_neg, decide_eq_true, decide_eq_false, ]
  | true =>
    have hD := mayD_ok hm
    by_cases hxn : X.length = T.length
    · have hxn' : (X.length : Int) = (T.length : Int) := by omega
      simp (disch := omega) [-getElem?_pos, if_pos, if_neg, decide_eq_true, decide_eq_false, hxn']
      refine wpC_use (boundR_l1 (H1 := H0) (tv := .slice ta T.length tc) (lv := .slice la L.length lc) (xv := .slice xa X.length xc) hX0 hT0 hxn hXl ⟨rfl, by simp, by simp, by simp, by simp, by simp, rfl⟩) ?_
      rintro x env2 H2 (⟨rfl, rfl, f1, f2, f9, hall⟩ | ⟨rfl, f6, f7, hall⟩) _
      · have hbb := okP_big hall
        simp (disch := omega) [-getElem?_pos, if_pos, if_neg, decide_eq_true, decide_eq_false, f1, f2, f9]
        refine wpC_use (boundR_l0 (H1 := H2) (lv := .slice la L.length lc) (xv := .slice xa X.length xc) (s := X.sum) hX0 hL0 hD hxn hbb hl hel ⟨rfl, by simp [f1], by simp [f2], by simp [f9], by simp, by simp⟩) ?_
        rintro x env3 H3 (⟨rfl, g9, hfa⟩ | ⟨rfl, g6, g7, hfa⟩) _
        · simp (disch := omega) [-getElem?_pos, if_pos, if_neg, decide_eq_true, decide_eq_false, g9, hap.trans hall, hlf.trans hfa, hxn]
        · simp (disch := omega) [-getElem?_pos, if_pos, if_neg, decide_eq_true, decide_eq_false, g6, g7, hlf.trans hfa]
      · simp (disch := omega) [-getElem?_pos, if_pos, if_neg, decide_eq_true, decide_eq_false, f6, f7, hap.trans hall]
    · have hxn' : ¬ (X.length : Int) = (T.length : Int) := by omega
      simp (disch := omega) [-getElem?_pos, if_pos, if_neg, decide_eq_true, decide_eq_false, hxn, hxn']
end Go.Proofs.YtejifalflkbekaaDoor
