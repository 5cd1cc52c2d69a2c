/-
  The document's eval (1): rises, each, has.
-/
import Derived.Test.YtlcddhgfkkjhkaaEval
import Derived.Test.YtlcddhgfkkjhkaaIrR
import Derived.Test.YtlcddhgfkkjhkaaRef09
import Derived.Test.YtlcddhgfkkjhkaaRef13
import Derived.Test.YtlcddhgfkkjhkaaBest

set_option maxRecDepth 100000
set_option linter.unusedSimpArgs false
set_option linter.unusedVariables false
namespace Go.Proofs.Ytlcddhgfkkjhkaa
open Go Go.Abs
def R12I (H : AH) (v : Value) (X : List Int) (n : Int) (k : Nat) (env : Env) (H' : AH) : Prop :=
  H' = H ∧ env 0 = some v ∧ env 1 = some (.int .i64 n) ∧ env 5 = some (.int .i64 k) ∧ (∀ j (h : j < X.length), j < k → (if j = 0 then -1 else X.getD (j - 1) 0) < X[j] ∧ X[j] < n) ∧ ∀ j, j < k → 0 ≤ X.getD j 0
def R12Q (H : AH) (X : List Int) (n : Int) (e : AExit) (env : Env) (H' : AH) : Prop :=
  H' = H ∧ ((e = .exit 0 ∧ Rises (-1) n X) ∨ (e = .ret ∧ env 4 = some (.bool false) ∧ ¬ Rises (-1) n X))
theorem rises12_spec {p : Nat → Prop} {H : AH} {v : Value} {X : List Int} {n : Int} (hX : SlV p H v X) : AFn Try.prog F_ref12_rises [v, .int .i64 n] H fun u H' => u = .bool (tr (Rises (-1) n X)) ∧ H' = H := by
  have hmax := hX.max
  obtain ⟨va, vc, rfl⟩ := hX.slice
  refine AFn.enter mixed ir_ref12_rises_eq (by simp [ir_ref12_rises]) fun hw => ?_
  simp (disch := omega) [-getElem?_pos, if_pos, if_neg, decide_eq_true, decide_eq_false, ir_ref12_rises]
  refine wpC_use (loop_upto X.length (R12I H (.slice va X.length vc) X n) (Q := R12Q H X n) ⟨rfl, by simp, by simp, by simp, by omega, by omega⟩ ?_) ?_
  · rintro k env H' hk ⟨rfl, e0, e1, e5, hj, hj0⟩
    by_cases hkn : k < X.length
    · obtain ⟨b0, off, sp, cap, cs, hcv, q1, q2⟩ := ints_rd hX (by omega)
      obtain ⟨q3, q4⟩ := q2 k hkn
      cases hcv
      have hgk : X.getD k 0 = X[k] := by rw [List.getD_eq_getElem?_getD, List.getElem?_eq_getElem hkn]; rfl
      have key : 0 ≤ X[k] → X[k] < n → ((if k = 0 then -1 else X.getD (k - 1) 0) < X[k]) → R12I H' (.slice (some ⟨b0, off, sp⟩) X.length vc) X n k env H' → (∀ j (h : j < X.length), j < k + 1 → (if j = 0 then -1 else X.getD (j - 1) 0) < X[j] ∧ X[j] < n) ∧ ∀ j, j < k + 1 → 0 ≤ X.getD j 0 := fun g0 g1 g2 _ => by
        refine ⟨fun j hjn hjk => ?_, fun j hjk => ?_⟩
        · by_cases hjk' : j = k
          · subst hjk'; exact ⟨g2, g1⟩
          · exact hj j hjn (by omega)
        · by_cases hjk' : j = k
          · subst hjk'; rw [hgk]; exact g0
          · exact hj0 j (by omega)
      have bad : ¬ ((if k = 0 then -1 else X.getD (k - 1) 0) < X[k] ∧ X[k] < n) → ¬ Rises (-1) n X := fun hb hR => hb (rises_get.1 hR k hkn)
      have hlast : -1 ≤ (if k = 0 then (-1 : Int) else X.getD (k - 1) 0) := by
        split
        · omega
        · have := hj0 (k - 1) (by omega); omega
      have hI : R12I H' (.slice (some ⟨b0, off, sp⟩) X.length vc) X n k env H' := ⟨rfl, e0, e1, e5, hj, hj0⟩
      by_cases hk0 : k = 0
      · subst hk0
        rw [Nat.add_zero] at q3
        simp only [if_true] at key bad hlast
        generalize X[0] = z at *
        by_cases h1 : z < 0
        · simp (disch := omega) [-getElem?_pos, if_pos, if_neg, decide_eq_true, decide_eq_false, ir_ref12_rises_l0, e0, e1, e5, q1, q3, hkn, h1, IntWalk.i64_in]
          exact ⟨rfl, .inr ⟨rfl, by simp, bad (by omega)⟩⟩
        · by_cases h2 : n ≤ z
          · simp (disch := omega) [-getElem?_pos, if_pos, if_neg, decide_eq_true, decide_eq_false, ir_ref12_rises_l0, e0, e1, e5, q1, q3, hkn, h1, h2, IntWalk.i64_in]
            exact ⟨rfl, .inr ⟨rfl, by simp, bad (by omega)⟩⟩
          · simp (disch := omega) [-getElem?_pos, if_pos, if_neg, decide_eq_true, decide_eq_false, ir_ref12_rises_l0, e0, e1, e5, q1, q3, hkn, h1, h2, IntWalk.i64_in]
            obtain ⟨g1, g2⟩ := key (by omega) (by omega) (by omega) hI
            exact ⟨rfl, by simp [e0], by simp [e1], by simp, g1, g2⟩
      · obtain ⟨m, rfl⟩ : ∃ m, k = m + 1 := ⟨k - 1, by omega⟩
        obtain ⟨q5, q6⟩ := q2 m (by omega)
        have hgm : X.getD m 0 = X[m] := by rw [List.getD_eq_getElem?_getD, List.getElem?_eq_getElem (by omega)]; rfl
        simp only [hk0, if_false, Nat.add_sub_cancel, hgm] at key bad hlast
        have hml : m < X.length := by omega
        have hsub : ((m + 1 : Nat) : Int) - 1 = (m : Int) := by omega
        have hpos : (0 : Int) < ((m + 1 : Nat) : Int) := by omega
        generalize hz : X[m + 1] = z at *
        generalize X[m] = y at *
        generalize hkk : m + 1 = kk at *
        by_cases h1 : z < 0
        · simp (disch := omega) [-getElem?_pos, if_pos, if_neg, decide_eq_true, decide_eq_false, ir_ref12_rises_l0, e0, e1, e5, q1, q3, q5, hkn, hml, hsub, hpos, h1, IntWalk.i64_in]
          exact ⟨rfl, .inr ⟨rfl, by simp, bad (by omega)⟩⟩
        · by_cases h2 : n ≤ z
          · simp (disch := omega) [-getElem?_pos, if_pos, if_neg, decide_eq_true, decide_eq_false, ir_ref12_rises_l0, e0, e1, e5, q1, q3, q5, hkn, hml, hsub, hpos, h1, h2, IntWalk.i64_in]
            exact ⟨rfl, .inr ⟨rfl, by simp, bad (by omega)⟩⟩
          · by_cases h3 : z ≤ y
            · simp (disch := omega) [-getElem?_pos, if_pos, if_neg, decide_eq_true, decide_eq_false, ir_ref12_rises_l0, e0, e1, e5, q1, q3, q5, hkn, hml, hsub, hpos, h1, h2, h3, IntWalk.i64_in]
              exact ⟨rfl, .inr ⟨rfl, by simp, bad (by omega)⟩⟩
            · simp (disch := omega) [-getElem?_pos, if_pos, if_neg, decide_eq_true, decide_eq_false, ir_ref12_rises_l0, e0, e1, e5, q1, q3, q5, hkn, hml, hsub, hpos, h1, h2, h3, IntWalk.i64_in]
              obtain ⟨g1, g2⟩ := key (by omega) (by omega) (by omega) hI
              exact ⟨rfl, by simp [e0], by simp [e1], by simp, g1, g2⟩
    · obtain rfl : k = X.length := by omega
      simp (disch := omega) [-getElem?_pos, if_pos, if_neg, decide_eq_true, decide_eq_false, ir_ref12_rises_l0, e0, e5]
      exact ⟨rfl, .inl ⟨rfl, rises_get.2 fun j h => hj j h h⟩⟩
  · rintro e env2 H' ⟨rfl, ⟨rfl, hR⟩ | ⟨rfl, e4, hR⟩⟩ hu
    · rw [tr_true hR]
      simp (disch := omega) [-getElem?_pos, if_pos, if_neg, decide_eq_true, decide_eq_false, ]
    · rw [tr_false hR]
      simp (disch := omega) [-getElem?_pos, if_pos, if_neg, decide_eq_true, decide_eq_false, e4]
def Ea0I (H : AH) (v : Value) (X : List Int) (n : Nat) (kk : Nat) (j : Nat) (env : Env) (H' : AH) : Prop :=
  H' = H ∧ env 0 = some v ∧ env 1 = some (.int .i64 n) ∧ env 5 = some (.int .i64 kk) ∧ env 7 = some (.int .i64 j) ∧ env 6 = some (.int .i64 ((X.take j).count (kk : Int)))
def Ea0Q (H : AH) (v : Value) (X : List Int) (n : Nat) (kk : Nat) (e : AExit) (env : Env) (H' : AH) : Prop :=
  H' = H ∧ e = .exit 2 ∧ env 0 = some v ∧ env 1 = some (.int .i64 n) ∧ env 5 = some (.int .i64 kk) ∧ env 6 = some (.int .i64 (X.count (kk : Int)))
theorem each_l0 {p : Nat → Prop} {H : AH} {v : Value} {X : List Int} {n kk : Nat} (hX : SlV p H v X) {env : Env} (h : Ea0I H v X n kk 0 env H) : wpC Try.prog 33 (.loop ir_ref12_each_l0) (Ea0Q H v X n kk) env H := by
  refine loop_upto X.length (Ea0I H v X n kk) (Q := Ea0Q H v X n kk) h ?_
  have hmax := hX.max
  obtain ⟨va, vc, rfl⟩ := hX.slice
  rintro j env H' hj ⟨rfl, e0, e1, e5, e7, e6⟩
  by_cases hjn : j < X.length
  · obtain ⟨b0, off, sp, cap, cs, hcv, q1, q2⟩ := ints_rd hX (by omega)
    obtain ⟨q3, q4⟩ := q2 j hjn
    cases hcv
    have hc : (X.take (j + 1)).count (kk : Int) = (X.take j).count (kk : Int) + (if X[j] = kk then 1 else 0) := by
      rw [List.take_succ_eq_append_getElem hjn, List.count_append, List.count_singleton]; simp
    have hcl : (X.take j).count (kk : Int) ≤ j := by have := List.count_le_length (a := (kk : Int)) (l := X.take j); rw [List.length_take] at this; omega
    generalize X[j] = z at *
    generalize (X.take j).count (kk : Int) = c at *
    by_cases hz : z = kk
    · have hzT := eq_true hz
      rw [if_pos hz] at hc
      simp (disch := omega) [-getElem?_pos, if_pos, if_neg, decide_eq_true, decide_eq_false, ir_ref12_each_l0, e0, e1, e5, e6, e7, q1, q3, hjn, hzT, IntWalk.i64_in]
      exact ⟨rfl, by simp [e0], by simp [e1], by simp [e5], by simp, by rw [hc]; simp⟩
    · have hzF := eq_false hz
      rw [if_neg hz] at hc
      simp (disch := omega) [-getElem?_pos, if_pos, if_neg, decide_eq_true, decide_eq_false, ir_ref12_each_l0, e0, e1, e5, e6, e7, q1, q3, hjn, hzF, IntWalk.i64_in]
      exact ⟨rfl, by simp [e0], by simp [e1], by simp [e5], by simp, by rw [hc]; simp [e6]⟩
  · obtain rfl : j = X.length := by omega
    rw [List.take_length] at e6
    simp (disch := omega) [-getElem?_pos, if_pos, if_neg, decide_eq_true, decide_eq_false, ir_ref12_each_l0, e0, e7]
    exact ⟨rfl, rfl, e0, e1, e5, e6⟩
def Ea1I (H : AH) (v : Value) (X : List Int) (n : Nat) (k : Nat) (env : Env) (H' : AH) : Prop :=
  H' = H ∧ env 0 = some v ∧ env 1 = some (.int .i64 n) ∧ env 5 = some (.int .i64 k) ∧ ∀ j, j < k → X.count (j : Int) = 1
def Ea1Q (H : AH) (v : Value) (X : List Int) (n : Nat) (e : AExit) (env : Env) (H' : AH) : Prop :=
  H' = H ∧ ((e = .ret ∧ env 4 = some (.bool false) ∧ orderB X n = false) ∨ (e = .exit 0 ∧ env 0 = some v ∧ env 1 = some (.int .i64 n) ∧ ∀ j, j < n → X.count (j : Int) = 1))
theorem each_spec {p : Nat → Prop} {H : AH} {v : Value} {X : List Int} {n : Nat} (hX : SlV p H v X) (hn : n ≤ 100000) : AFn Try.prog F_ref12_each [v, .int .i64 n] H fun u H' => u = .bool (orderB X n) ∧ H' = H := by
  have hmax := hX.max
  obtain ⟨va, vc, rfl⟩ := hX.slice
  refine AFn.enter mixed ir_ref12_each_eq (by simp [ir_ref12_each]) fun hw => ?_
  simp (disch := omega) [-getElem?_pos, if_pos, if_neg, decide_eq_true, decide_eq_false, ir_ref12_each]
  refine wpC_use (loop_upto n (Ea1I H (.slice va X.length vc) X n) (Q := Ea1Q H (.slice va X.length vc) X n) ⟨rfl, by simp, by simp, by simp, by omega⟩ ?_) ?_
  · rintro k env H' hk ⟨rfl, e0, e1, e5, hj⟩
    by_cases hkn : k < n
    · simp (disch := omega) [-getElem?_pos, if_pos, if_neg, decide_eq_true, decide_eq_false, ir_ref12_each_l1, e0, e1, e5, hkn, IntWalk.i64_in]
      refine wpC_use (each_l0 (kk := k) (n := n) hX ⟨rfl, by simp [e0], by simp [e1], by simp [e5], by simp, by simp⟩) ?_
      rintro e env2 H2 ⟨rfl, rfl, f0, f1, f5, f6⟩ hu
      generalize hc : X.count (k : Int) = c at *
      by_cases h1 : c = 1
      · have h1' : ((c : Nat) : Int) = 1 := by omega
        simp (disch := omega) [-getElem?_pos, if_pos, if_neg, decide_eq_true, decide_eq_false, f5, f6, h1', IntWalk.i64_in]
        refine ⟨hkn, rfl, by simp [f0], by simp [f1], by simp, fun j hjk => ?_⟩
        by_cases hjk' : j = k
        · subst hjk'; omega
        · exact hj j (by omega)
      · have h1' : ¬ ((c : Nat) : Int) = 1 := by omega
        simp (disch := omega) [-getElem?_pos, if_pos, if_neg, decide_eq_true, decide_eq_false, f5, f6, h1', IntWalk.i64_in]
        refine ⟨rfl, .inl ⟨rfl, by simp, ?_⟩⟩
        rw [Bool.eq_false_iff]
        intro ho
        have := (orderB_iff.1 ho).2 k hkn
        omega
    · obtain rfl : k = n := by omega
      simp (disch := omega) [-getElem?_pos, if_pos, if_neg, decide_eq_true, decide_eq_false, ir_ref12_each_l1, e1, e5]
      exact ⟨rfl, .inr ⟨rfl, e0, e1, hj⟩⟩
  · rintro e env2 H' ⟨rfl, ⟨rfl, e4, hf⟩ | ⟨rfl, e0, e1, hj⟩⟩ hu
    · rw [hf]
      simp (disch := omega) [-getElem?_pos, if_pos, if_neg, decide_eq_true, decide_eq_false, e4]
    · have hfin : orderB X n = decide (X.length = n) := by
        by_cases hl : X.length = n
        · rw [orderB_iff.2 ⟨hl, hj⟩]; simp [hl]
        · rw [Bool.eq_false_iff.2 fun h => hl (orderB_iff.1 h).1]; simp [hl]
      rw [hfin]
      simp (disch := omega) [-getElem?_pos, if_pos, if_neg, decide_eq_true, decide_eq_false, e0, e1]
      omega
def Ha0I (H : AH) (sv v : Value) (z : Int) (kk : Nat) (E : List Int) (k : Nat) (env : Env) (H' : AH) : Prop :=
  H' = H ∧ env 0 = some sv ∧ env 1 = some v ∧ env 2 = some (.int .i64 z) ∧ env 7 = some (.int .i64 kk) ∧ env 8 = some (.int .i64 k) ∧ ∀ j (h : j < E.length), j < k → ¬ E[j] = z
def Ha0Q (H : AH) (sv v : Value) (z : Int) (kk : Nat) (E : List Int) (e : AExit) (env : Env) (H' : AH) : Prop :=
  H' = H ∧ ((e = .ret ∧ env 6 = some (.bool true) ∧ z ∈ E) ∨ (e = .exit 2 ∧ env 0 = some sv ∧ env 1 = some v ∧ env 2 = some (.int .i64 z) ∧ env 7 = some (.int .i64 kk) ∧ z ∉ E))
def Ha1I (H : AH) (sv v : Value) (x : InstD) (X : List Int) (z : Int) (k : Nat) (env : Env) (H' : AH) : Prop :=
  H' = H ∧ env 0 = some sv ∧ env 1 = some v ∧ env 2 = some (.int .i64 z) ∧ env 7 = some (.int .i64 k) ∧ ∀ i ∈ X.take k, z ∉ (x.setE i).elems
def Ha1Q (H : AH) (x : InstD) (X : List Int) (z : Int) (e : AExit) (env : Env) (H' : AH) : Prop :=
  H' = H ∧ ((e = .ret ∧ env 6 = some (.bool true) ∧ ∃ i ∈ X, z ∈ (x.setE i).elems) ∨ (e = .exit 0 ∧ ∀ i ∈ X, z ∉ (x.setE i).elems))
theorem has_spec {p : Nat → Prop} {H : AH} {sv v : Value} {x : InstD} {X : List Int} {z : Int} (hs : SlV p H sv x.sets) (hX : SlV p H v X) (hR : ∀ y ∈ X, 0 ≤ y ∧ y < x.sets.length) : AFn Try.prog F_ref12_has [sv, v, .int .i64 z] H fun u H' => u = .bool (X.any fun i => (x.setE i).elems.contains z) ∧ H' = H := by
  have hmax := hX.max
  have hsm := hs.max
  obtain ⟨va, vc, rfl⟩ := hX.slice
  obtain ⟨sa, sc, rfl⟩ := hs.slice
  refine AFn.enter mixed ir_ref12_has_eq (by simp [ir_ref12_has]) fun hw => ?_
  generalize hg : (X.any fun i => (x.setE i).elems.contains z) = g
  simp (disch := omega) [-getElem?_pos, if_pos, if_neg, decide_eq_true, decide_eq_false, ir_ref12_has]
  refine wpC_use (loop_upto X.length (Ha1I H (.slice sa x.sets.length sc) (.slice va X.length vc) x X z) (Q := Ha1Q H x X z) ⟨rfl, by simp, by simp, by simp, by simp, by simp⟩ ?_) ?_
  · rintro k env H' hk ⟨rfl, e0, e1, e2, e7, hj⟩
    by_cases hkn : k < X.length
    · obtain ⟨b0, off, sp, cap, cs, hcv, q1, q2⟩ := ints_rd hX (by omega)
      obtain ⟨q3, q4⟩ := q2 k hkn
      cases hcv
      have hr := hR X[k] (List.getElem_mem _)
      obtain ⟨N, hN⟩ : ∃ N : Nat, X[k] = N := ⟨X[k].toNat, by omega⟩
      have hNl : N < x.sets.length := by omega
      obtain ⟨b1, off1, sp1, cap1, cs1, hcv1, r1, r2⟩ := sets_rd hs (by omega)
      obtain ⟨w, r3, r4, r5, r6, r7⟩ := r2 N hNl
      cases hcv1
      have hse : x.setE X[k] = x.sets[N] := by rw [hN]; unfold InstD.setE; simp [hNl]
      have ht := List.take_succ_eq_append_getElem hkn
      have hmem : X[k] ∈ X := List.getElem_mem _
      rw [hN] at q3
      obtain ⟨ea, ec, rfl⟩ := r7.slice
      have hEm := r7.max
      rw [← hse] at r7 r5 hEm
      generalize hEE : (x.setE X[k]).elems = E at *
      generalize X[k] = xk at *
      simp (disch := omega) [-getElem?_pos, if_pos, if_neg, decide_eq_true, decide_eq_false, ir_ref12_has_l1, e0, e1, e2, e7, hkn]
      refine wpC_use (loop_upto E.length (Ha0I H' (.slice (some ⟨b1, off1, sp1⟩) x.sets.length sc) (.slice (some ⟨b0, off, sp⟩) X.length vc) z k E) (Q := Ha0Q H' (.slice (some ⟨b1, off1, sp1⟩) x.sets.length sc) (.slice (some ⟨b0, off, sp⟩) X.length vc) z k E) ⟨rfl, by simp [e0], by simp [e1], by simp [e2], by simp [e7], by simp, by omega⟩ ?_) ?_
      · rintro j env2 H2 hjl ⟨rfl, f0, f1, f2, f7, f8, hne⟩
        by_cases hjn : j < E.length
        · obtain ⟨b2, off2, sp2, cap2, cs2, hcv2, t1, t2⟩ := ints_rd r7 (by omega)
          obtain ⟨t3, t4⟩ := t2 j hjn
          cases hcv2
          have hmj : E[j] ∈ E := List.getElem_mem _
          have key : ¬ E[j] = z → ∀ i (h : i < E.length), i < j + 1 → ¬ E[i] = z := fun h i hi hij => by
            by_cases hij' : i = j
            · subst hij'; exact h
            · exact hne i hi (by omega)
          generalize E[j] = y at *
          by_cases hy : y = z
          · have hyT := eq_true hy
            simp (disch := omega) [-getElem?_pos, if_pos, if_neg, decide_eq_true, decide_eq_false, ir_ref12_has_l0, f0, f1, f2, f7, f8, q1, q3, r1, r5, t1, t3, hkn, hNl, hjn, hyT, IntWalk.i64_in]
            exact ⟨rfl, .inl ⟨rfl, by simp, by rw [← hy]; exact hmj⟩⟩
          · have hyF := eq_false hy
            simp (disch := omega) [-getElem?_pos, if_pos, if_neg, decide_eq_true, decide_eq_false, ir_ref12_has_l0, f0, f1, f2, f7, f8, q1, q3, r1, r5, t1, t3, hkn, hNl, hjn, hyF, IntWalk.i64_in]
            exact ⟨rfl, by simp [f0], by simp [f1], by simp [f2], by simp [f7], by simp, key hy⟩
        · obtain rfl : j = E.length := by omega
          simp (disch := omega) [-getElem?_pos, if_pos, if_neg, decide_eq_true, decide_eq_false, ir_ref12_has_l0, f0, f1, f2, f7, f8, q1, q3, r1, r5, hkn, hNl, IntWalk.i64_in]
          refine ⟨rfl, .inr ⟨rfl, by simp [f0], by simp [f1], by simp [f2], by simp [f7], fun hz => ?_⟩⟩
          obtain ⟨i, hi, hiz⟩ := List.getElem_of_mem hz
          exact hne i hi hi hiz
      · rintro e env2 H2 ⟨rfl, ⟨rfl, f6, hz⟩ | ⟨rfl, f0, f1, f2, f7, hz⟩⟩ hu
        · simp (disch := omega) [-getElem?_pos, if_pos, if_neg, decide_eq_true, decide_eq_false, ]
          exact ⟨rfl, .inl ⟨rfl, f6, xk, hmem, by rw [hEE]; exact hz⟩⟩
        · simp (disch := omega) [-getElem?_pos, if_pos, if_neg, decide_eq_true, decide_eq_false, f7, IntWalk.i64_in]
          refine ⟨hkn, rfl, by simp [f0], by simp [f1], by simp [f2], by simp, fun i hi => ?_⟩
          rw [ht] at hi
          rcases List.mem_append.1 hi with h | h
          · exact hj i h
          · rw [List.mem_singleton.1 h, hEE]; exact hz
    · obtain rfl : k = X.length := by omega
      rw [List.take_length] at hj
      simp (disch := omega) [-getElem?_pos, if_pos, if_neg, decide_eq_true, decide_eq_false, ir_ref12_has_l1, e1, e7]
      exact ⟨rfl, .inr ⟨rfl, hj⟩⟩
  · rintro e env2 H' ⟨rfl, ⟨rfl, f6, i, hi, hz⟩ | ⟨rfl, hz⟩⟩ hu
    · have : g = true := hg ▸ List.any_eq_true.2 ⟨i, hi, List.contains_iff_mem.2 hz⟩
      rw [this]
      simp (disch := omega) [-getElem?_pos, if_pos, if_neg, decide_eq_true, decide_eq_false, f6]
    · have : g = false := by
        rw [← hg, Bool.eq_false_iff]
        intro h
        obtain ⟨i, hi, hc⟩ := List.any_eq_true.1 h
        exact hz i hi (List.contains_iff_mem.1 hc)
      rw [this]
      simp (disch := omega) [-getElem?_pos, if_pos, if_neg, decide_eq_true, decide_eq_false, ]
end Go.Proofs.Ytlcddhgfkkjhkaa

set_option maxRecDepth 100000
namespace Go.Proofs.Ytlcddhgfkkjhkaa
open Go Go.Abs
theorem wt_mag {x : InstD} (hok : x.Ok) {y : Int} (h : 0 ≤ y ∧ y < x.items.length) : 0 ≤ x.wt y ∧ x.wt y ≤ 2147483648 := by
  have hl : y.toNat < x.items.length := by omega
  have := (hok.small.items y.toNat hl).2
  unfold InstD.wt
  rw [List.getD_eq_getElem?_getD, List.getElem?_eq_getElem hl]
  exact this
def Fe1I (H1 : AH) (q : Nat) (v : Value) (x : InstD) (X : List Int) (k : Nat) (env : Env) (H' : AH) : Prop :=
  H' = H1 ∧ env 1 = some v ∧ env 2 = some (.pointer (some ⟨q, 0, none⟩)) ∧ env 6 = some (.bool true) ∧ env 8 = some (.int .i64 k) ∧ env 7 = some (.int .i64 ((X.take k).map x.wt).sum)
def Fe1Q (H1 : AH) (q : Nat) (x : InstD) (X : List Int) (e : AExit) (env : Env) (H' : AH) : Prop :=
  H' = H1 ∧ e = .exit 1 ∧ env 2 = some (.pointer (some ⟨q, 0, none⟩)) ∧ env 6 = some (.bool true) ∧ env 7 = some (.int .i64 (X.map x.wt).sum)
theorem feas_l1 {H1 : AH} {q : Nat} {v : Value} {x : InstD} {iv cv sv : Value} {X : List Int} (hq : H1.cells q = some [.int .i64 x.kind, .int .i64 x.cap, iv, cv, .int .i64 x.size, sv]) (hi : SlV (fun _ => True) H1 iv x.items) (hX : SlV (fun _ => True) H1 v X) (hok : x.Ok) (hR : ∀ y ∈ X, 0 ≤ y ∧ y < x.items.length) (hXl : X.length ≤ 4096) {env : Env} (h : Fe1I H1 q v x X 0 env H1) :
    wpC Try.prog 93 (.loop ir_ref12_Feasible_l1) (Fe1Q H1 q x X) env H1 := by
  refine loop_upto X.length (Fe1I H1 q v x X) (Q := Fe1Q H1 q x X) h ?_
  have hmi := hi.max
  obtain ⟨va, vc, rfl⟩ := hX.slice
  rintro k env H' hk ⟨rfl, e1, e2, e6, e8, e7⟩
  by_cases hkn : k < X.length
  · obtain ⟨b0, off, sp, cap, cs, hcv, q1, q2⟩ := ints_rd hX (by omega)
    obtain ⟨q3, q4⟩ := q2 k hkn
    cases hcv
    have hr := hR X[k] (List.getElem_mem _)
    obtain ⟨N, hN⟩ : ∃ N : Nat, X[k] = N := ⟨X[k].toNat, by omega⟩
    have hNl : N < x.items.length := by omega
    obtain ⟨b1, off1, sp1, cap1, cs1, hcv1, r1, r2⟩ := pairs_rd hi (by omega)
    obtain ⟨r3, r4, r5, r6, r7⟩ := r2 N hNl
    subst hcv1
    have hwt : x.wt X[k] = x.items[N].2 := by rw [hN]; unfold InstD.wt; simp [hNl]
    have ht : ((X.take (k + 1)).map x.wt).sum = ((X.take k).map x.wt).sum + x.items[N].2 := by rw [List.take_succ_eq_append_getElem hkn, List.map_append, List.sum_append]; simp [hwt]
    have hb := sum_le (L := (X.take k).map x.wt) (c := 2147483648) fun y hy => by
      obtain ⟨z, hz, rfl⟩ := List.mem_map.1 hy
      exact wt_mag hok (hR z (List.mem_of_mem_take hz))
    have hm := (hok.small.items N hNl).2
    have hbl : ((X.take k).map x.wt).length = k := by simp; omega
    rw [hbl] at hb
    clear hbl
    unfold Mag at hm
    rw [hN] at q3
    generalize ((X.take k).map x.wt).sum = s at *
    generalize hs' : ((X.take (k + 1)).map x.wt).sum = s' at *
    generalize x.items[N].2 = w at *
    have hwr : IntKind.i64.wrap (s + w) = s' := by rw [ht]; exact IntWalk.i64_in _ (by omega)
    simp (disch := omega) [-getElem?_pos, if_pos, if_neg, decide_eq_true, decide_eq_false, ir_ref12_Feasible_l1, e1, e2, e6, e7, e8, q1, q3, hq, r1, r5, hNl, hkn, hwr, IntWalk.i64_in]
    exact ⟨rfl, by simp [e1], by simp [e2], by simp [e6], by simp, by rw [hs']; simp⟩
  · obtain rfl : k = X.length := by omega
    rw [List.take_length] at e7
    simp (disch := omega) [-getElem?_pos, if_pos, if_neg, decide_eq_true, decide_eq_false, ir_ref12_Feasible_l1, e1, e6, e8]
    exact ⟨rfl, rfl, e2, e6, e7⟩
def Fe0I (H1 : AH) (q : Nat) (v : Value) (x : InstD) (X : List Int) (k : Nat) (env : Env) (H' : AH) : Prop :=
  H' = H1 ∧ env 1 = some v ∧ env 2 = some (.pointer (some ⟨q, 0, none⟩)) ∧ env 11 = some (.int .i64 k) ∧ (0 < k → X.any (fun i => (x.setE i).elems.contains ((k - 1 : Nat) : Int)) = true ∨ X.any (fun i => (x.setE i).elems.contains ((k - 1 : Nat) : Int)) = false) ∧
    ∃ ok, env 10 = some (.bool ok) ∧ (ok = true ↔ ∀ j, j < k → X.any (fun i => (x.setE i).elems.contains (j : Int)) = true)
def Fe0Q (H1 : AH) (x : InstD) (X : List Int) (e : AExit) (env : Env) (H' : AH) : Prop :=
  H' = H1 ∧ e = .exit 3 ∧ env 10 = some (.bool (x.cov X))
theorem feas_l0 {H1 : AH} {q n : Nat} {v : Value} {x : InstD} {iv cv sv : Value} {X : List Int} (hq : H1.cells q = some [.int .i64 x.kind, .int .i64 x.cap, iv, cv, .int .i64 x.size, sv]) (hs : SlV (fun _ => True) H1 sv x.sets) (hX : SlV (fun _ => True) H1 v X) (hn : x.size = (n : Int)) (hn4 : n ≤ 4096) (hR : ∀ y ∈ X, 0 ≤ y ∧ y < x.sets.length) {env : Env} (h : Fe0I H1 q v x X 0 env H1) :
    wpC Try.prog 93 (.loop ir_ref12_Feasible_l0) (Fe0Q H1 x X) env H1 := by
  refine loop_upto n (Fe0I H1 q v x X) (Q := Fe0Q H1 x X) h ?_
  obtain ⟨va, vc, rfl⟩ := hX.slice
  obtain ⟨sa, sc, rfl⟩ := hs.slice
  have hcov : x.cov X = (List.range n).all fun e => X.any fun i => (x.setE i).elems.contains (e : Int) := by unfold InstD.cov; rw [hn]; rfl
  rintro k env H' hk ⟨rfl, e1, e2, e11, _, ok, e10, hok⟩
  by_cases hkn : k < n
  · cases ok with
    | true =>
      have hh := has_spec (z := (k : Int)) hs hX hR
      have hall := hok.1 rfl
      generalize hg : (X.any fun i => (x.setE i).elems.contains (k : Int)) = g at *
      simp (disch := omega) [-getElem?_pos, if_pos, if_neg, decide_eq_true, decide_eq_false, ir_ref12_Feasible_l0, e1, e2, e10, e11, hq, hn, hkn]
      refine AFn.pure hh ?_
      simp (disch := omega) [-getElem?_pos, if_pos, if_neg, decide_eq_true, decide_eq_false, e11, IntWalk.i64_in]
      refine ⟨hkn, rfl, by simp [e1], by simp [e2], by simp, fun _ => by cases h : (X.any fun i => (x.setE i).elems.contains ((k + 1 - 1 : Nat) : Int)) <;> simp, g, by simp, ?_⟩
      constructor
      · intro hgt j hj
        by_cases hjk : j = k
        · subst hjk; rw [hg]; exact hgt
        · exact hall j (by omega)
      · intro hj
        rw [← hg]; exact hj k (by omega)
    | false =>
      simp (disch := omega) [-getElem?_pos, if_pos, if_neg, decide_eq_true, decide_eq_false, ir_ref12_Feasible_l0, e1, e2, e10, e11, hq, hn, hkn]
      refine ⟨rfl, rfl, ?_⟩
      have : x.cov X = false := by
        rw [hcov, Bool.eq_false_iff]
        intro hc
        have h2 : (false : Bool) = true := hok.2 fun j hj => List.all_eq_true.1 hc j (List.mem_range.2 (by omega))
        cases h2
      rw [this]; simp [e10]
  · obtain rfl : k = n := by omega
    simp (disch := omega) [-getElem?_pos, if_pos, if_neg, decide_eq_true, decide_eq_false, ir_ref12_Feasible_l0, e2, e10, e11, hq, hn]
    refine ⟨rfl, rfl, ?_⟩
    have : x.cov X = ok := by
      rw [hcov]
      cases ok with
      | true => exact List.all_eq_true.2 fun j hj => hok.1 rfl j (List.mem_range.1 hj)
      | false =>
        rw [Bool.eq_false_iff]
        intro hc
        have h2 : (false : Bool) = true := hok.2 fun j hj => List.all_eq_true.1 hc j (List.mem_range.2 hj)
        cases h2
    rw [this]; simp [e10]
noncomputable def _root_.Go.Abs.InstD.feas (x : InstD) (X : List Int) : Bool := if x.check = 0 then x.may X else false
theorem Feasible12_spec {H : AH} {v w : Value} {x : InstD} {X : List Int} (hx : InstV (fun _ => True) H v x) (hX : SlV (fun _ => True) H w X) : AFn Try.prog F_ref12_Feasible [v, w] H fun u H' => u = .bool (x.feas X) ∧ H' = H := by
  refine AFn.calm (fun H0 hs => ?_) rfl
  have hx0 := hx.same hs
  have hX0 := hX.same hs
  obtain ⟨iv, cv, sv, rfl, i1, i2, i3, h1, h2, h3⟩ := id hx0
  obtain ⟨wa, wc, rfl⟩ := hX.slice
  obtain ⟨ia, ic, rfl⟩ := h1.slice
  obtain ⟨ca, cc, rfl⟩ := h2.slice
  obtain ⟨sa, sc, rfl⟩ := h3.slice
  have hm := hX.max
  have hmi := h1.max
  have hmc := h2.max
  have hms := h3.max
  refine AFn.enter mixed ir_ref12_Feasible_eq (by simp [ir_ref12_Feasible]) fun hw => ?_
  generalize hI : instC x (.slice ia x.items.length ic) (.slice ca x.cost.length cc) (.slice sa x.sets.length sc) = I
  have hI' : I = [.int .i64 x.kind, .int .i64 x.cap, .slice ia x.items.length ic, .slice ca x.cost.length cc, .int .i64 x.size, .slice sa x.sets.length sc] := hI.symm
  have bc : (H0.alloc (.row I T_secateurref09_Inst true)).cells H0.next = some I := AH.cells_alloc_new
  have k1 : Keep [] H0 (H0.alloc (.row I T_secateurref09_Inst true)) := .alloc
  have w1 := WF.alloc hw (B := .row I T_secateurref09_Inst true)
  have hX1 := hX0.kept hw k1
  have a1 := h1.kept hw k1
  have a3 := h3.kept hw k1
  have hx1 := hx0.kept hw k1
  have hcut : cut I 0 6 = some I := by rw [hI']; rfl
  have g0 : I[0]? = some (.int .i64 x.kind) := by rw [hI']; rfl
  have g1 : I[1]? = some (.int .i64 x.cap) := by rw [hI']; rfl
  have g2 : I[2]? = some (.slice ia x.items.length ic) := by rw [hI']; rfl
  have g3 : I[3]? = some (.slice ca x.cost.length cc) := by rw [hI']; rfl
  have g5 : I[5]? = some (.slice sa x.sets.length sc) := by rw [hI']; rfl
  have ht : Value.agg I.toArray = .agg #[.int .i64 x.kind, .int .i64 x.cap, .slice ia x.items.length ic, .slice ca x.cost.length cc, .int .i64 x.size, .slice sa x.sets.length sc] := by rw [hI']
  rw [← ht] at hx1 ⊢
  have hc6 : cellsOf (Value.agg I.toArray) = some I := by rw [ht, hI']; rfl
  generalize hq : H0.next = q at *
  simp (disch := omega) [-getElem?_pos, if_pos, if_neg, decide_eq_true, decide_eq_false, ir_ref12_Feasible, hq, hc6, bc, hcut]
  generalize H0.alloc (.row I T_secateurref09_Inst true) = H1 at *
  refine AFn.pure (Check9_spec hx1) ?_
  unfold InstD.feas
  by_cases hc : x.check = 0
  · have hok := InstD.check_ok.1 hc
    have bc' := bc
    rw [hI'] at bc'
    unfold InstD.may
    by_cases k0 : x.kind = 0
    · have k0T := eq_true k0
      simp (disch := omega) [-getElem?_pos, if_pos, if_neg, decide_eq_true, decide_eq_false, hc, bc, g0, g2, k0T]
      refine AFn.pure (rises12_spec hX1) ?_
      by_cases hR : Rises (-1) x.items.length X
      · rw [tr_true hR]
        have hXl : X.length ≤ 4096 := by
          have := hok.few.items
          rcases rises_len hR (by omega) with h | h
          · omega
          · rw [h]; simp
        simp (disch := omega) [-getElem?_pos, if_pos, if_neg, decide_eq_true, decide_eq_false, ]
        refine wpC_use (feas_l1 (H1 := H1) (q := q) bc' a1 hX1 hok (fun y hy => by have := rises_range hR y hy; omega) hXl ⟨rfl, by simp, by simp, by simp, by simp, by simp⟩) ?_
        rintro e env2 H2 ⟨rfl, rfl, f2, f6, f7⟩ hu
        generalize (X.map x.wt).sum = s at *
        simp (disch := omega) [-getElem?_pos, if_pos, if_neg, decide_eq_true, decide_eq_false, f2, f6, f7, bc, g1]
      · rw [tr_false hR]
        have hf1 : ∀ env : Env, env 1 = some (.slice wa X.length wc) → env 8 = some (.int .i64 0) → env 6 = some (.bool false) → wpC Try.prog 93 (.loop ir_ref12_Feasible_l1) (fun e env' H' => H' = H1 ∧ e = .exit 1 ∧ env' 6 = some (.bool false)) env H1 := fun env f1 f8 f6 => by
          refine loop_rule (fun j env' H' => H' = H1 ∧ env' 1 = some (.slice wa X.length wc) ∧ env' 8 = some (.int .i64 0) ∧ env' 6 = some (.bool false)) ?_ (j := 0) ⟨rfl, f1, f8, f6⟩
          rintro j env' H' ⟨rfl, f1, f8, f6⟩
          by_cases hp : 0 < X.length
          · simp (disch := omega) [-getElem?_pos, if_pos, if_neg, decide_eq_true, decide_eq_false, ir_ref12_Feasible_l1, f1, f6, f8, hp]
          · simp (disch := omega) [-getElem?_pos, if_pos, if_neg, decide_eq_true, decide_eq_false, ir_ref12_Feasible_l1, f1, f6, f8, hp]
        simp (disch := omega) [-getElem?_pos, if_pos, if_neg, decide_eq_true, decide_eq_false, ]
        refine wpC_use (hf1 _ (by simp) (by simp) (by simp)) ?_
        rintro e env2 H2 ⟨rfl, rfl, f6⟩ hu
        simp (disch := omega) [-getElem?_pos, if_pos, if_neg, decide_eq_true, decide_eq_false, f6]
    · have k0F := eq_false k0
      by_cases k1 : x.kind = 1
      · have k1T := eq_true k1
        simp (disch := omega) [-getElem?_pos, if_pos, if_neg, decide_eq_true, decide_eq_false, hc, bc, g0, g3, k0F, k1T]
        refine AFn.pure (each_spec hX1 (by have := hok.few.sq (.inl k1); omega)) ?_
        simp (disch := omega) [-getElem?_pos, if_pos, if_neg, decide_eq_true, decide_eq_false, ]
      · have k1F := eq_false k1
        by_cases k2 : x.kind = 2
        · have k2T := eq_true k2
          generalize hz0 : X.getD 0 0 = z0
          simp (disch := omega) [-getElem?_pos, if_pos, if_neg, decide_eq_true, decide_eq_false, hc, bc, g0, g3, k0F, k1F, k2T]
          refine AFn.pure (each_spec hX1 (by have := hok.few.sq (.inr k2); omega)) ?_
          cases ho : orderB X x.cost.length with
          | true =>
            have hl := (orderB_iff.1 ho).1
            have hpos : 0 < X.length := by have := hok.few.sq (.inr k2); omega
            obtain ⟨b0, off, sp, cap, cs, hcv, q1, q2⟩ := ints_rd hX1 hpos
            obtain ⟨q3, q4⟩ := q2 0 hpos
            cases hcv
            have hg0 : X[0] = z0 := by rw [← hz0, List.getD_eq_getElem?_getD, List.getElem?_eq_getElem hpos]; rfl
            rw [Nat.add_zero, hg0] at q3
            simp (disch := omega) [-getElem?_pos, if_pos, if_neg, decide_eq_true, decide_eq_false, q1, q3, hpos]
          | false => simp (disch := omega) [-getElem?_pos, if_pos, if_neg, decide_eq_true, decide_eq_false, ]
        · have k2F := eq_false k2
          obtain ⟨n, hn⟩ : ∃ n : Nat, x.size = n := ⟨x.size.toNat, by have := hok.few.size0; omega⟩
          have hn4 : n ≤ 4096 := by have := hok.few.size; omega
          have g4 : I[4]? = some (.int .i64 n) := by rw [hI', ← hn]; rfl
          simp (disch := omega) [-getElem?_pos, if_pos, if_neg, decide_eq_true, decide_eq_false, hc, bc, g0, g5, k0F, k1F, k2F]
          refine AFn.pure (rises12_spec hX1) ?_
          by_cases hR : Rises (-1) x.sets.length X
          · rw [tr_true hR]
            simp (disch := omega) [-getElem?_pos, if_pos, if_neg, decide_eq_true, decide_eq_false, ]
            refine wpC_use (feas_l0 (H1 := H1) (q := q) bc' a3 hX1 hn hn4 (fun y hy => by have := rises_range hR y hy; omega) ⟨rfl, by simp, by simp, by simp, by simp, true, by simp, by simp⟩) ?_
            rintro e env2 H2 ⟨rfl, rfl, f10⟩ hu
            simp (disch := omega) [-getElem?_pos, if_pos, if_neg, decide_eq_true, decide_eq_false, f10]
          · rw [tr_false hR]
            have hf1 : ∀ env : Env, env 2 = some (.pointer (some ⟨q, 0, none⟩)) → env 11 = some (.int .i64 0) → env 10 = some (.bool false) → wpC Try.prog 93 (.loop ir_ref12_Feasible_l0) (fun e env' H' => H' = H1 ∧ e = .exit 3 ∧ env' 10 = some (.bool false)) env H1 := fun env f2 f11 f10 => by
              refine loop_rule (fun j env' H' => H' = H1 ∧ env' 2 = some (.pointer (some ⟨q, 0, none⟩)) ∧ env' 11 = some (.int .i64 0) ∧ env' 10 = some (.bool false)) ?_ (j := 0) ⟨rfl, f2, f11, f10⟩
              rintro j env' H' ⟨rfl, f2, f11, f10⟩
              by_cases hp : 0 < n
              · simp (disch := omega) [-getElem?_pos, if_pos, if_neg, decide_eq_true, decide_eq_false, ir_ref12_Feasible_l0, f2, f10, f11, bc, g4, hp]
              · simp (disch := omega) [-getElem?_pos, if_pos, if_neg, decide_eq_true, decide_eq_false, ir_ref12_Feasible_l0, f2, f10, f11, bc, g4, hp]
            simp (disch := omega) [-getElem?_pos, if_pos, if_neg, decide_eq_true, decide_eq_false, ]
            refine wpC_use (hf1 _ (by simp) (by simp) (by simp)) ?_
            rintro e env2 H2 ⟨rfl, rfl, f10⟩ hu
            simp (disch := omega) [-getElem?_pos, if_pos, if_neg, decide_eq_true, decide_eq_false, f10]
  · simp (disch := omega) [-getElem?_pos, if_pos, if_neg, decide_eq_true, decide_eq_false, hc]
end Go.Proofs.Ytlcddhgfkkjhkaa

set_option maxRecDepth 100000
namespace Go.Proofs.Ytlcddhgfkkjhkaa
open Go Go.Abs
def Va0I (H1 : AH) (q : Nat) (v : Value) (x : InstD) (X : List Int) (k : Nat) (env : Env) (H' : AH) : Prop :=
  H' = H1 ∧ env 1 = some v ∧ env 2 = some (.pointer (some ⟨q, 0, none⟩)) ∧ env 9 = some (.int .i64 k) ∧ env 8 = some (.int .i64 ((x.parts X).take k).sum)
def Va0Q (H1 : AH) (x : InstD) (X : List Int) (e : AExit) (env : Env) (H' : AH) : Prop :=
  H' = H1 ∧ e = .exit 0 ∧ env 8 = some (.int .i64 (x.parts X).sum)
theorem value12_l0 {H1 : AH} {q : Nat} {x : InstD} {iv cv sv v : Value} {X : List Int} (hq : H1.cells q = some [.int .i64 x.kind, .int .i64 x.cap, iv, cv, .int .i64 x.size, sv]) (hi : SlV (fun _ => True) H1 iv x.items) (hc : SlV (fun _ => True) H1 cv x.cost) (hs : SlV (fun _ => True) H1 sv x.sets) (hX : SlV (fun _ => True) H1 v X) (hok : x.Ok) (hp : PartOk x X) (h0 : x.kind = 2 → X.getD 0 0 = 0)
    {env : Env} (h : Va0I H1 q v x X 0 env H1) : wpC Try.prog 94 (.loop ir_ref12_Value_l0) (Va0Q H1 x X) env H1 := by
  refine loop_upto X.length (Va0I H1 q v x X) (Q := Va0Q H1 x X) h ?_
  have hfew := hp.few
  have hpl : (x.parts X).length = X.length := by simp [InstD.parts]
  have hmi := hi.max
  have hmc := hc.max
  have hms := hs.max
  obtain ⟨va, vc, rfl⟩ := hX.slice
  rintro k env H' hk ⟨rfl, e1, e2, e9, e8⟩
  by_cases hkn : k < X.length
  · obtain ⟨b0, off, sp, cap, cs, hcv, q1, q2⟩ := ints_rd hX (by omega)
    obtain ⟨q3, q4⟩ := q2 k hkn
    cases hcv
    have hmag := part_mag hok hp hkn
    have ht : ((x.parts X).take (k + 1)).sum = ((x.parts X).take k).sum + x.part X k := by
      rw [sum_take_succ (by omega)]; simp [InstD.parts]
    have hb := sum_abs (L := (x.parts X).take k) fun y hy => by
      have hy' := List.mem_of_mem_take hy
      unfold InstD.parts at hy'
      obtain ⟨i, hi, rfl⟩ := List.mem_map.1 hy'
      exact part_mag hok hp (List.mem_range.1 hi)
    have hlk : ((x.parts X).take k).length = k := by rw [List.length_take]; omega
    rw [hlk] at hb
    clear hlk
    have hmem : X[k] ∈ X := List.getElem_mem _
    have hgk : X.getD k 0 = X[k] := by rw [List.getD_eq_getElem?_getD, List.getElem?_eq_getElem hkn]; rfl
    have hwr : IntKind.i64.wrap (((x.parts X).take k).sum + x.part X k) = ((x.parts X).take (k + 1)).sum := by rw [ht]; exact IntWalk.i64_in _ (by omega)
    have fin : ∀ env2 : Env, env2 1 = some (.slice (some ⟨b0, off, sp⟩) X.length vc) → env2 2 = some (.pointer (some ⟨q, 0, none⟩)) → env2 9 = some (.int .i64 ((k : Int) + 1)) → env2 8 = some (.int .i64 ((x.parts X).take (k + 1)).sum) → Va0I H' q (.slice (some ⟨b0, off, sp⟩) X.length vc) x X (k + 1) env2 H' :=
      fun env2 g1 g2 g9 g8 => ⟨rfl, g1, g2, by rw [g9]; simp, g8⟩
    generalize ((x.parts X).take k).sum = s at *
    generalize ((x.parts X).take (k + 1)).sum = s' at *
    by_cases k0 : x.kind = 0
    · have hr := hp.items k0 X[k] hmem
      obtain ⟨N, hN⟩ : ∃ N : Nat, X[k] = N := ⟨X[k].toNat, by omega⟩
      have hNl : N < x.items.length := by omega
      obtain ⟨b1, off1, sp1, cap1, cs1, hcv1, r1, r2⟩ := pairs_rd hi (by omega)
      obtain ⟨r3, r4, r5, r6, r7⟩ := r2 N hNl
      have hpv : x.part X k = x.items[N].1 := by unfold InstD.part; rw [if_pos k0, hgk, hN]; unfold InstD.val; simp [hNl]
      rw [← hpv] at r4
      rw [hN] at q3
      generalize x.part X k = w at *
      have k0T := eq_true k0
      subst hcv1
      simp (disch := omega) [-getElem?_pos, if_pos, if_neg, decide_eq_true, decide_eq_false, ir_ref12_Value_l0, e1, e2, e8, e9, q1, q3, hq, k0T, r1, r4, hNl, hkn, hwr, IntWalk.i64_in]
      exact fin _ (by simp [e1]) (by simp [e2]) (by simp) (by simp)
    · by_cases k1 : x.kind = 1
      · have hr := hp.cost (.inl k1) X[k] hmem
        have hlen := hp.len (.inl k1)
        obtain ⟨N, hN⟩ : ∃ N : Nat, X[k] = N := ⟨X[k].toNat, by omega⟩
        have hNl : N < x.cost.length := by omega
        have hkc : k < x.cost.length := by omega
        obtain ⟨b1, off1, sp1, cap1, cs1, hcv1, r1, r2⟩ := rows_rd hc (by omega)
        obtain ⟨w, r3, r4⟩ := r2 k hkc
        have hrow := hok.shaped.rows k hkc
        obtain ⟨b2, off2, sp2, cap2, cs2, hcv2, t1, t2⟩ := ints_rd r4 (by omega)
        obtain ⟨t3, t4⟩ := t2 N (by omega)
        rw [hrow] at hcv2
        have hpv : x.part X k = x.cost[k][N] := by unfold InstD.part; rw [if_neg k0, if_pos k1, hgk, hN]; unfold InstD.costE; simp [hkc, hNl, hrow]
        rw [← hpv] at t3
        rw [hN] at q3
        generalize x.part X k = w at *
        have k0F := eq_false k0
        have k1T := eq_true k1
        subst hcv1 hcv2
        simp (disch := omega) [-getElem?_pos, if_pos, if_neg, decide_eq_true, decide_eq_false, ir_ref12_Value_l0, e1, e2, e8, e9, q1, q3, hq, k0F, k1T, r1, r3, t1, t3, hNl, hkc, hkn, hwr, IntWalk.i64_in]
        exact fin _ (by simp [e1]) (by simp [e2]) (by simp) (by simp)
      · by_cases k2 : x.kind = 2
        · have hr := hp.cost (.inr k2) X[k] hmem
          have hlen := hp.len (.inr k2)
          obtain ⟨N, hN⟩ : ∃ N : Nat, X[k] = N := ⟨X[k].toNat, by omega⟩
          have hNl : N < x.cost.length := by omega
          obtain ⟨b1, off1, sp1, cap1, cs1, hcv1, r1, r2⟩ := rows_rd hc (by omega)
          obtain ⟨w, r3, r4⟩ := r2 N hNl
          have hrow := hok.shaped.rows N hNl
          obtain ⟨b2, off2, sp2, cap2, cs2, hcv2, t1, t2⟩ := ints_rd r4 (by omega)
          rw [hrow] at hcv2
          have k0F := eq_false k0
          have k1F := eq_false k1
          have k2T := eq_true k2
          by_cases hlast : k + 1 < X.length
          · obtain ⟨u3, u4⟩ := q2 (k + 1) hlast
            have hgm : X.getD (k + 1) 0 = X[k + 1] := by rw [List.getD_eq_getElem?_getD, List.getElem?_eq_getElem hlast]; rfl
            have hr2 := hp.cost (.inr k2) X[k + 1] (List.getElem_mem _)
            obtain ⟨M, hM⟩ : ∃ M : Nat, X[k + 1] = M := ⟨X[k + 1].toNat, by omega⟩
            have hMl : M < x.cost.length := by omega
            obtain ⟨t3, t4⟩ := t2 M (by omega)
            have hpv : x.part X k = x.cost[N][M] := by unfold InstD.part; rw [if_neg k0, if_neg k1, if_pos k2, Nat.mod_eq_of_lt hlast, hgk, hgm, hN, hM]; unfold InstD.costE; simp [hNl, hrow, hMl]
            rw [← hpv] at t3
            rw [hN] at q3
            rw [hM] at u3
            generalize x.part X k = w at *
            clear hpv t4 hM hr2 hgm u4
            obtain ⟨K, hK⟩ : ∃ K : Nat, K = k + 1 := ⟨_, rfl⟩
            have hkk : (k : Int) + 1 = (K : Int) := by omega
            rw [← hK] at u3
            have hKl : K < X.length := by omega
            have hKi : (K : Int) < (X.length : Int) := by omega
            subst hcv1 hcv2
            simp (disch := omega) [-getElem?_pos, if_pos, if_neg, decide_eq_true, decide_eq_false, ir_ref12_Value_l0, e1, e2, e8, e9, q1, q3, u3, hq, k0F, k1F, k2T, r1, r3, t1, t3, hNl, hMl, hKl, hKi, hkn, hkk, hwr, IntWalk.i64_in]
            exact fin _ (by simp [e1]) (by simp [e2]) (by simp; omega) (by simp)
          · have hpos : 0 < X.length := by omega
            have hMl : 0 < x.cost.length := by omega
            obtain ⟨t3, t4⟩ := t2 0 (by omega)
            have hpv : x.part X k = x.cost[N][0] := by
              unfold InstD.part
              rw [if_neg k0, if_neg k1, if_pos k2, show k + 1 = X.length by omega, Nat.mod_self, hgk, h0 k2, hN]; unfold InstD.costE; simp [hNl, hrow, hMl]
            rw [← hpv, Nat.add_zero] at t3
            rw [hN] at q3
            have hl1 : ¬ (k : Int) + 1 < (X.length : Int) := by omega
            generalize x.part X k = w at *
            clear hpv t4
            subst hcv1 hcv2
            simp (disch := omega) [-getElem?_pos, if_pos, if_neg, decide_eq_true, decide_eq_false, ir_ref12_Value_l0, e1, e2, e8, e9, q1, q3, hq, k0F, k1F, k2T, r1, r3, t1, t3, hNl, hMl, hkn, hl1, hwr, IntWalk.i64_in]
            exact fin _ (by simp [e1]) (by simp [e2]) (by simp) (by simp)
        · have hr := hp.sets (by omega) X[k] hmem
          obtain ⟨N, hN⟩ : ∃ N : Nat, X[k] = N := ⟨X[k].toNat, by omega⟩
          have hNl : N < x.sets.length := by omega
          obtain ⟨b1, off1, sp1, cap1, cs1, hcv1, r1, r2⟩ := sets_rd hs (by omega)
          obtain ⟨w, r3, r4, r5, r6, r7⟩ := r2 N hNl
          have hpv : x.part X k = x.sets[N].cost := by unfold InstD.part; rw [if_neg k0, if_neg k1, if_neg k2, hgk, hN]; unfold InstD.setE; simp [hNl]
          rw [← hpv] at r4
          rw [hN] at q3
          generalize x.part X k = w at *
          have k0F := eq_false k0
          have k1F := eq_false k1
          have k2F := eq_false k2
          subst hcv1
          simp (disch := omega) [-getElem?_pos, if_pos, if_neg, decide_eq_true, decide_eq_false, ir_ref12_Value_l0, e1, e2, e8, e9, q1, q3, hq, k0F, k1F, k2F, r1, r4, hNl, hkn, hwr, IntWalk.i64_in]
          exact fin _ (by simp [e1]) (by simp [e2]) (by simp) (by simp)
  · obtain rfl : k = X.length := by omega
    rw [List.take_of_length_le (by omega)] at e8
    simp (disch := omega) [-getElem?_pos, if_pos, if_neg, decide_eq_true, decide_eq_false, ir_ref12_Value_l0, e1, e9]
    exact ⟨rfl, rfl, e8⟩
theorem Value12_spec {H : AH} {v w : Value} {x : InstD} {X : List Int} (hx : InstV (fun _ => True) H v x) (hX : SlV (fun _ => True) H w X) : AFn Try.prog F_ref12_Value [v, w] H fun u H' => u = .tuple #[.int .i64 (x.value X), .int .i64 (x.valueE X)] ∧ H' = H := by
  refine AFn.calm (fun H0 hs => ?_) rfl
  have hx0 := hx.same hs
  have hX0 := hX.same hs
  obtain ⟨iv, cv, sv, rfl, i1, i2, i3, h1, h2, h3⟩ := id hx0
  obtain ⟨wa, wc, rfl⟩ := hX.slice
  refine AFn.enter mixed ir_ref12_Value_eq (by simp [ir_ref12_Value]) fun hw => ?_
  have bc : (H0.alloc (.row (instC x iv cv sv) T_secateurref09_Inst true)).cells H0.next = some (instC x iv cv sv) := AH.cells_alloc_new
  have k1 : Keep [] H0 (H0.alloc (.row (instC x iv cv sv) T_secateurref09_Inst true)) := .alloc
  have hX1 := hX0.kept hw k1
  have a1 := h1.kept hw k1
  have a2 := h2.kept hw k1
  have a3 := h3.kept hw k1
  have hx1 := hx0.kept hw k1
  generalize hq : H0.next = q at *
  simp (disch := omega) [-getElem?_pos, if_pos, if_neg, decide_eq_true, decide_eq_false, ir_ref12_Value, hq, inst_cut]
  generalize H0.alloc (.row (instC x iv cv sv) T_secateurref09_Inst true) = H1 at *
  refine AFn.pure (Check9_spec hx1) ?_
  unfold InstD.value InstD.valueE
  by_cases hc : x.check = 0
  · have hok := InstD.check_ok.1 hc
    simp (disch := omega) [-getElem?_pos, if_pos, if_neg, decide_eq_true, decide_eq_false, hc, bc, inst_cut]
    refine AFn.pure (Feasible12_spec hx1 hX1) ?_
    have hfe : x.feas X = x.may X := by unfold InstD.feas; rw [if_pos hc]
    rw [hfe]
    cases hmy : x.may X with
    | false => simp (disch := omega) [-getElem?_pos, if_pos, if_neg, decide_eq_true, decide_eq_false, ]
    | true =>
      have hp := may_part hok hmy
      have h20 : x.kind = 2 → X.getD 0 0 = 0 := fun k2 => by
        unfold InstD.may at hmy
        rw [if_neg (by omega), if_neg (by omega), if_pos k2, Bool.and_eq_true] at hmy
        simpa using hmy.2
      simp (disch := omega) [-getElem?_pos, if_pos, if_neg, decide_eq_true, decide_eq_false, ]
      refine wpC_use (value12_l0 (q := q) bc a1 a2 a3 hX1 hok hp h20 ⟨rfl, by simp, by simp, by simp, by simp⟩) ?_
      rintro e env2 H2 ⟨rfl, rfl, f8⟩ hu
      generalize (x.parts X).sum = s at *
      simp (disch := omega) [-getElem?_pos, if_pos, if_neg, decide_eq_true, decide_eq_false, f8]
  · simp (disch := omega) [-getElem?_pos, if_pos, if_neg, decide_eq_true, decide_eq_false, hc]
theorem value_mag {x : InstD} {X : List Int} : -8796093022208 ≤ x.value X ∧ x.value X ≤ 8796093022208 := by
  unfold InstD.value
  split
  · rename_i hc
    split
    · rename_i hm
      exact parts_sum (InstD.check_ok.1 hc) (may_part (InstD.check_ok.1 hc) hm)
    · omega
  · omega
theorem Cost12_spec {H : AH} {v w : Value} {x : InstD} {X : List Int} (hx : InstV (fun _ => True) H v x) (hX : SlV (fun _ => True) H w X) : AFn Try.prog F_ref12_Cost [v, w] H fun u H' => u = .tuple #[.int .i64 (x.costOf X), .int .i64 (x.valueE X)] ∧ H' = H := by
  refine AFn.calm (fun H0 hs => ?_) rfl
  have hx0 := hx.same hs
  have hX0 := hX.same hs
  obtain ⟨iv, cv, sv, rfl, i1, i2, i3, h1, h2, h3⟩ := id hx0
  obtain ⟨wa, wc, rfl⟩ := hX.slice
  refine AFn.enter mixed ir_ref12_Cost_eq (by simp [ir_ref12_Cost]) fun hw => ?_
  have bc : (H0.alloc (.row (instC x iv cv sv) T_secateurref09_Inst true)).cells H0.next = some (instC x iv cv sv) := AH.cells_alloc_new
  have k1 : Keep [] H0 (H0.alloc (.row (instC x iv cv sv) T_secateurref09_Inst true)) := .alloc
  have hX1 := hX0.kept hw k1
  have hx1 := hx0.kept hw k1
  generalize hq : H0.next = q at *
  simp (disch := omega) [-getElem?_pos, if_pos, if_neg, decide_eq_true, decide_eq_false, ir_ref12_Cost, hq, inst_cut]
  generalize H0.alloc (.row (instC x iv cv sv) T_secateurref09_Inst true) = H1 at *
  refine AFn.pure (Value12_spec hx1 hX1) ?_
  have hvb := value_mag (x := x) (X := X)
  simp only [instC] at bc
  unfold InstD.costOf
  by_cases k0 : x.kind = 0
  · have k0T := eq_true k0
    generalize x.value X = s at *
    have hwr : IntKind.i64.wrap (-s) = -s := IntWalk.i64_in _ (by omega)
    simp (disch := omega) [-getElem?_pos, if_pos, if_neg, decide_eq_true, decide_eq_false, bc, k0T, hwr]
  · have k0F := eq_false k0
    simp (disch := omega) [-getElem?_pos, if_pos, if_neg, decide_eq_true, decide_eq_false, bc, k0F]
end Go.Proofs.Ytlcddhgfkkjhkaa
