/-
  Contracts of package mmheap (2): rise, up, below, down, last.
-/
import Derived.Test.YtjcncbejnplakaaMheap
set_option maxRecDepth 100000
set_option linter.unusedSimpArgs false
set_option linter.unusedVariables false
namespace Go.Proofs.Ytjcncbejnplakaa
open Go Go.Abs

def RiseMI (H : AH) (q : Nat) (s : Bool) (L0 : List Ent) (S : List Nat) (i0 : Nat) (j : Nat) (env : Env) (H' : AH) : Prop :=
  env 0 = some (.pointer (some ⟨q, 0, none⟩)) ∧ env 2 = some (.bool s) ∧ env 1 = some (.int .i64 (j : Nat)) ∧ WF H' ∧ Keep S H H' ∧ ∃ L, j < L.length ∧ HeapM H' q L S ∧ riseM s i0 L0 = riseM s j L
def HeapMQ (H : AH) (q : Nat) (R : List Ent) (S : List Nat) (l : Nat) (ex : AExit) (env : Env) (H' : AH) : Prop := (ex = .exit l ∨ ex = .ret) ∧ HeapM H' q R S ∧ Keep S H H'

theorem rise_specM {H : AH} {q : Nat} {L : List Ent} {S : List Nat} (h : HeapM H q L S) {i : Nat} (hi : i < L.length) (s : Bool) : AFn Try.prog F_mmheap_Heap_rise [.pointer (some ⟨q, 0, none⟩), .int .i64 i, .bool s] H fun u H' => HeapM H' q (riseM s i L) S ∧ Keep S H H' := by
  refine AFn.enter mixed ir_mmheap_Heap_rise_eq (by simp [ir_mmheap_Heap_rise]) fun hw => ?_
  simp (disch := omega) [-getElem?_pos, if_pos, if_neg, decide_eq_true, decide_eq_false, ir_mmheap_Heap_rise]
  refine wpC_use (loop_rule (RiseMI H q s L S i) (Q := HeapMQ H q (riseM s i L) S 0) ?_ (j := i) ⟨by simp, by simp, by simp, hw, .refl, L, hi, h, rfl⟩) fun ex env2 H2 ⟨hex, hq⟩ _ => ?_
  · rintro j env H' ⟨e0, e2, e1, w', k', M, hj, hM, hU⟩
    have hMl : M.length ≤ 1000000 := by obtain ⟨_, _, _, _, h4⟩ := hM; exact h4
    by_cases h2 : 2 < j
    · obtain ⟨up, hup⟩ : ∃ up, up = ((j - 1) / 2 - 1) / 2 := ⟨_, rfl⟩
      have hlt : up < j := by omega
      rw [riseM.eq_def s j M, dif_pos h2, ← hup] at hU
      have t1 : (j : Int) - 1 = ((j - 1 : Nat) : Int) := by omega
      have t2 : ((j - 1 : Nat) : Int).tdiv 2 = (((j - 1) / 2 : Nat) : Int) := by rw [Int.tdiv_eq_ediv_of_nonneg (by omega)]; norm_cast
      have t3 : (((j - 1) / 2 : Nat) : Int) - 1 = (((j - 1) / 2 - 1 : Nat) : Int) := by omega
      have t4 : (((j - 1) / 2 - 1 : Nat) : Int).tdiv 2 = (up : Int) := by rw [Int.tdiv_eq_ediv_of_nonneg (by omega), hup]; norm_cast
      have b1 : j - 1 < 1000000 ∧ (j - 1) / 2 < 1000000 ∧ (j - 1) / 2 - 1 < 1000000 := by omega
      clear hup
      generalize (j - 1) / 2 - 1 = x3 at *
      generalize (j - 1) / 2 = x2 at *
      generalize j - 1 = x1 at *
      simp (disch := omega) [-getElem?_pos, if_pos, if_neg, decide_eq_true, decide_eq_false, ir_mmheap_Heap_rise_l0, e0, e1, e2, t1, t2, t3, t4, IntWalk.i64_in, show (2:Int) < (j:Int) by omega]
      refine AFn.pure (ahead_spec hM.read hj (show up < M.length by omega) s) ?_
      cases hx : aheadL M j up s with
      | false =>
        rw [hx] at hU
        simp (disch := omega) [-getElem?_pos, if_pos, if_neg, decide_eq_true, decide_eq_false, e0, e1, e2]
        exact ⟨.inr rfl, by rw [hU]; exact hM, k'⟩
      | true =>
        rw [hx] at hU
        simp (disch := omega) [-getElem?_pos, if_pos, if_neg, decide_eq_true, decide_eq_false, e0, e1, e2]
        refine (swap_specM hM hj (show up < M.length by omega)).mono' fun u H3 w3 ⟨h3, k3⟩ => ?_
        simp (disch := omega) [-getElem?_pos, if_pos, if_neg, decide_eq_true, decide_eq_false, e0, e1, e2]
        exact ⟨up, hlt, by simp [e0], by simp [e2], by simp, w3, k'.trans' k3, _, by rw [swapL_length]; omega, h3, hU⟩
    · rw [riseM.eq_def s j M, dif_neg h2] at hU
      simp (disch := omega) [-getElem?_pos, if_pos, if_neg, decide_eq_true, decide_eq_false, ir_mmheap_Heap_rise_l0, e1, show ¬ (2:Int) < (j:Int) by omega]
      exact ⟨.inl rfl, by rw [hU]; exact hM, k'⟩
  · rcases hex with rfl | rfl
    · simp (disch := omega) [-getElem?_pos, if_pos, if_neg, decide_eq_true, decide_eq_false, ]
      exact hq
    · simp (disch := omega) [-getElem?_pos, if_pos, if_neg, decide_eq_true, decide_eq_false, ]
      exact hq

theorem up_specM {H : AH} {q : Nat} {L : List Ent} {S : List Nat} (h : HeapM H q L S) {i : Nat} (hi : i < L.length) : AFn Try.prog F_mmheap_Heap_up [.pointer (some ⟨q, 0, none⟩), .int .i64 i] H fun u H' => HeapM H' q (upM i L) S ∧ Keep S H H' := by
  have hMl : L.length ≤ 1000000 := by obtain ⟨_, _, _, _, h4⟩ := h; exact h4
  refine AFn.enter mixed ir_mmheap_Heap_up_eq (by simp [ir_mmheap_Heap_up]) fun hw => ?_
  unfold upM
  by_cases h0 : i = 0
  · subst h0
    simp (disch := omega) [-getElem?_pos, if_pos, if_neg, decide_eq_true, decide_eq_false, ir_mmheap_Heap_up]
    exact ⟨h, .refl⟩
  · obtain ⟨p, hp⟩ : ∃ p, p = (i - 1) / 2 := ⟨_, rfl⟩
    have hpl : p < L.length := by omega
    have t1 : (i : Int) - 1 = ((i - 1 : Nat) : Int) := by omega
    have t2 : ((i - 1 : Nat) : Int).tdiv 2 = (p : Int) := by rw [Int.tdiv_eq_ediv_of_nonneg (by omega), hp]; norm_cast
    have b1 : i - 1 < 1000000 := by omega
    rw [if_neg h0, ← hp]
    clear hp
    generalize i - 1 = x1 at *
    simp (disch := omega) [-getElem?_pos, if_pos, if_neg, decide_eq_true, decide_eq_false, ir_mmheap_Heap_up, h0, show ¬ ((i:Int) = 0) by omega]
    refine AFn.pure (least_spec (by omega)) ?_
    simp (disch := omega) [-getElem?_pos, if_pos, if_neg, decide_eq_true, decide_eq_false, t1, t2, IntWalk.i64_in]
    refine AFn.pure (ahead_spec h.read hpl hi _) ?_
    cases hx : aheadL L p i (parB i) with
    | true =>
      simp (disch := omega) [-getElem?_pos, if_pos, if_neg, decide_eq_true, decide_eq_false, ]
      refine (swap_specM h hi hpl).mono' fun u H3 w3 ⟨h3, k3⟩ => ?_
      simp (disch := omega) [-getElem?_pos, if_pos, if_neg, decide_eq_true, decide_eq_false, ]
      refine (rise_specM h3 (show p < (swapL L i p).length by rw [swapL_length]; exact hpl) _).mono' fun u H4 w4 ⟨h4, k4⟩ => ?_
      simp (disch := omega) [-getElem?_pos, if_pos, if_neg, decide_eq_true, decide_eq_false, ]
      exact ⟨h4, k3.trans' k4⟩
    | false =>
      simp (disch := omega) [-getElem?_pos, if_pos, if_neg, decide_eq_true, decide_eq_false, ]
      refine (rise_specM h hi _).mono' fun u H4 w4 ⟨h4, k4⟩ => ?_
      simp (disch := omega) [-getElem?_pos, if_pos, if_neg, decide_eq_true, decide_eq_false, ]
      exact ⟨h4, k4⟩

def BelowI (H : AH) (q : Nat) (s : Bool) (L : List Ent) (i : Nat) (A : Array Value) (j : Nat) (env : Env) (H' : AH) : Prop :=
  env 0 = some (.pointer (some ⟨q, 0, none⟩)) ∧ env 2 = some (.bool s) ∧ env 7 = some (.int .i64 (bestM L i s j : Nat)) ∧ env 28 = some (.agg A) ∧ env 29 = some (.int .i64 (j : Nat)) ∧ H' = H
def BelowQ (H : AH) (r : Nat) (ex : AExit) (env : Env) (H' : AH) : Prop := ex = .exit 0 ∧ env 7 = some (.int .i64 (r : Nat)) ∧ H' = H

theorem below_spec {H : AH} {q : Nat} {L : List Ent} (h : HeapR H q L) {i : Nat} (hi : i < 1000000) (s : Bool) : AFn Try.prog F_mmheap_Heap_below [.pointer (some ⟨q, 0, none⟩), .int .i64 i, .bool s] H fun u H' => u = .int .i64 (bestM L i s 6 : Nat) ∧ H' = H := by
  have hln := h.len
  refine AFn.enter mixed ir_mmheap_Heap_below_eq (by simp [ir_mmheap_Heap_below]) fun hw => ?_
  simp (disch := omega) [-getElem?_pos, if_pos, if_neg, decide_eq_true, decide_eq_false, ir_mmheap_Heap_below, IntWalk.i64_in]
  obtain ⟨A, hA⟩ : ∃ A, A = #[Value.int .i64 (2 * (i : Int) + 1), Value.int .i64 (2 * (i : Int) + 2), Value.int .i64 (4 * (i : Int) + 3), Value.int .i64 (4 * (i : Int) + 4), Value.int .i64 (4 * (i : Int) + 5), Value.int .i64 (4 * (i : Int) + 6)] := ⟨_, rfl⟩
  have hAg : ∀ j, j < 6 → A[j]? = some (.int .i64 (descN i j : Nat)) := by
    intro j hj
    rw [hA]
    have hc : j = 0 ∨ j = 1 ∨ j = 2 ∨ j = 3 ∨ j = 4 ∨ j = 5 := by omega
    rcases hc with rfl | rfl | rfl | rfl | rfl | rfl <;> simp [descN] <;> omega
  rw [← hA]
  clear hA
  obtain ⟨v, h1, h2, h3⟩ := id h
  obtain ⟨a, c, rfl⟩ := h2.slice
  refine wpC_use (loop_upto 6 (BelowI H q s L i A) (Q := BelowQ H (bestM L i s 6)) ⟨by simp, by simp, by simp [bestM], by simp, by simp, rfl⟩ ?_) fun ex env2 H2 ⟨hex, f7, hH⟩ _ => ?_
  · rintro j env H' hj ⟨e0, e2, e7, e28, e29, rfl⟩
    by_cases hj6 : j < 6
    · have hg := hAg j hj6
      have hstep : bestM L i s (j + 1) = if descN i j < L.length ∧ (bestM L i s j = 0 ∨ aheadL L (descN i j) (bestM L i s j) s = true) then descN i j else bestM L i s j := rfl
      have hbl := @bestM_lt L i s j
      generalize descN i j = c at *
      generalize bestM L i s j = b at *
      by_cases hc : c < L.length
      · by_cases hb : b = 0
        · subst hb
          rw [if_pos ⟨hc, .inl rfl⟩] at hstep
          simp (disch := omega) [-getElem?_pos, if_pos, if_neg, decide_eq_true, decide_eq_false, ir_mmheap_Heap_below_l0, e0, e2, e7, e28, e29, hg, h1, IntWalk.i64_in, show (c:Int) < (L.length:Int) by omega, show (j:Int) < 6 by omega]
          exact ⟨hj6, by simp [e0], by simp [e2], by simp [hstep], by simp [e28], by simp, rfl⟩
        · have hbl' := hbl hb
          simp (disch := omega) [-getElem?_pos, if_pos, if_neg, decide_eq_true, decide_eq_false, ir_mmheap_Heap_below_l0, e0, e2, e7, e28, e29, hg, h1, hb, IntWalk.i64_in, show (c:Int) < (L.length:Int) by omega, show (j:Int) < 6 by omega, show ¬ ((b:Int) = 0) by omega]
          refine AFn.pure (ahead_spec h hc hbl'.1 s) ?_
          cases hx : aheadL L c b s with
          | true =>
            rw [if_pos ⟨hc, .inr hx⟩] at hstep
            simp (disch := omega) [-getElem?_pos, if_pos, if_neg, decide_eq_true, decide_eq_false, e0, e2, e7, e28, e29, IntWalk.i64_in]
            exact ⟨hj6, by simp [e0], by simp [e2], by simp [hstep], by simp [e28], by simp, rfl⟩
          | false =>
            rw [if_neg (by rintro ⟨_, q1 | q1⟩; exact hb q1; rw [hx] at q1; cases q1)] at hstep
            simp (disch := omega) [-getElem?_pos, if_pos, if_neg, decide_eq_true, decide_eq_false, e0, e2, e7, e28, e29, IntWalk.i64_in]
            exact ⟨hj6, by simp [e0], by simp [e2], by simp [hstep, e7], by simp [e28], by simp, rfl⟩
      · rw [if_neg (fun q1 => hc q1.1)] at hstep
        simp (disch := omega) [-getElem?_pos, if_pos, if_neg, decide_eq_true, decide_eq_false, ir_mmheap_Heap_below_l0, e0, e2, e7, e28, e29, hg, h1, IntWalk.i64_in, show ¬ (c:Int) < (L.length:Int) by omega, show (j:Int) < 6 by omega]
        exact ⟨hj6, by simp [e0], by simp [e2], by simp [hstep, e7], by simp [e28], by simp, rfl⟩
    · obtain rfl : j = 6 := by omega
      simp (disch := omega) [-getElem?_pos, if_pos, if_neg, decide_eq_true, decide_eq_false, ir_mmheap_Heap_below_l0, e29]
      exact ⟨rfl, e7, rfl⟩
  · subst hex hH
    simp (disch := omega) [-getElem?_pos, if_pos, if_neg, decide_eq_true, decide_eq_false, f7]

def DownMI (H : AH) (q : Nat) (s : Bool) (L0 : List Ent) (S : List Nat) (i0 : Nat) (m : Nat) (env : Env) (H' : AH) : Prop :=
  ∃ i L, m = L.length - i ∧ env 0 = some (.pointer (some ⟨q, 0, none⟩)) ∧ env 4 = some (.bool s) ∧ env 1 = some (.int .i64 (i : Nat)) ∧ WF H' ∧ Keep S H H' ∧ i < L.length ∧ HeapM H' q L S ∧ downM s i0 L0 = downM s i L

theorem down_specM {H : AH} {q : Nat} {L : List Ent} {S : List Nat} (h : HeapM H q L S) {i : Nat} (hi : i < L.length) : AFn Try.prog F_mmheap_Heap_down [.pointer (some ⟨q, 0, none⟩), .int .i64 i] H fun u H' => HeapM H' q (downM (parB i) i L) S ∧ Keep S H H' := by
  have hMl : L.length ≤ 1000000 := by obtain ⟨_, _, _, _, h4⟩ := h; exact h4
  refine AFn.enter mixed ir_mmheap_Heap_down_eq (by simp [ir_mmheap_Heap_down]) fun hw => ?_
  simp (disch := omega) [-getElem?_pos, if_pos, if_neg, decide_eq_true, decide_eq_false, ir_mmheap_Heap_down]
  refine AFn.pure (least_spec (by omega)) ?_
  generalize parB i = s
  simp (disch := omega) [-getElem?_pos, if_pos, if_neg, decide_eq_true, decide_eq_false, ]
  refine wpC_use (loop_rule (DownMI H q s L S i) (Q := HeapMQ H q (downM s i L) S 0) ?_ (j := L.length - i) ⟨i, L, rfl, by simp, by simp, by simp, hw, .refl, hi, h, rfl⟩) fun ex env2 H2 ⟨hex, hq⟩ _ => ?_
  · rintro m env H1 ⟨i1, M, hm, e0, e4, e1, w1, k1, hi1, hM, hU⟩
    have hMl : M.length ≤ 1000000 := by obtain ⟨_, _, _, _, h4⟩ := hM; exact h4
    rw [downM.eq_def s i1 M] at hU
    simp (disch := omega) [-getElem?_pos, if_pos, if_neg, decide_eq_true, decide_eq_false, ir_mmheap_Heap_down_l0, e0, e1, e4]
    refine AFn.pure (below_spec hM.read (by omega) s) ?_
    have hbl := @bestM_lt M i1 s 6
    generalize bestM M i1 s 6 = k at *
    by_cases hk : k = 0
    · subst hk
      rw [dif_neg (fun q1 => q1.1 rfl)] at hU
      simp (disch := omega) [-getElem?_pos, if_pos, if_neg, decide_eq_true, decide_eq_false, e0, e1, e4]
      exact ⟨.inr rfl, by rw [hU]; exact hM, k1⟩
    · obtain ⟨hkl, hki⟩ := hbl hk
      simp (disch := omega) [-getElem?_pos, if_pos, if_neg, decide_eq_true, decide_eq_false, e0, e1, e4, hk, show ¬ ((k:Int) = 0) by omega]
      refine AFn.pure (ahead_spec hM.read hkl hi1 s) ?_
      cases hx : aheadL M k i1 s with
      | false =>
        rw [dif_neg (fun q1 => by rw [hx] at q1; cases q1.2)] at hU
        simp (disch := omega) [-getElem?_pos, if_pos, if_neg, decide_eq_true, decide_eq_false, e0, e1, e4]
        exact ⟨.inr rfl, by rw [hU]; exact hM, k1⟩
      | true =>
        rw [dif_pos ⟨hk, hx⟩] at hU
        simp (disch := omega) [-getElem?_pos, if_pos, if_neg, decide_eq_true, decide_eq_false, e0, e1, e4]
        refine (swap_specM hM hkl hi1).mono' fun u H3 w3 ⟨h3, k3⟩ => ?_
        have hN : (swapL M k i1).length = M.length := swapL_length _ _ _
        generalize swapL M k i1 = N at *
        by_cases hle : k ≤ 2 * i1 + 2
        · rw [if_pos hle] at hU
          simp (disch := omega) [-getElem?_pos, if_pos, if_neg, decide_eq_true, decide_eq_false, e0, e1, e4, IntWalk.i64_in, show (k:Int) ≤ 2 * (i1:Int) + 2 by omega]
          exact ⟨.inr rfl, by rw [hU]; exact h3, k1.trans' k3⟩
        · rw [if_neg hle] at hU
          obtain ⟨p, hp⟩ : ∃ p, p = (k - 1) / 2 := ⟨_, rfl⟩
          have hpl : p < N.length := by omega
          have t1 : (k : Int) - 1 = ((k - 1 : Nat) : Int) := by omega
          have t2 : ((k - 1 : Nat) : Int).tdiv 2 = (p : Int) := by rw [Int.tdiv_eq_ediv_of_nonneg (by omega), hp]; norm_cast
          have b1 : k - 1 < 1000000 := by omega
          rw [← hp] at hU
          clear hp
          generalize k - 1 = x1 at *
          simp (disch := omega) [-getElem?_pos, if_pos, if_neg, decide_eq_true, decide_eq_false, e0, e1, e4, t1, t2, IntWalk.i64_in, show ¬ (k:Int) ≤ 2 * (i1:Int) + 2 by omega]
          refine AFn.pure (ahead_spec h3.read hpl (show k < N.length by omega) s) ?_
          cases hy : aheadL N p k s with
          | true =>
            rw [if_pos hy] at hU
            simp (disch := omega) [-getElem?_pos, if_pos, if_neg, decide_eq_true, decide_eq_false, e0, e1, e4]
            refine (swap_specM h3 hpl (show k < N.length by omega)).mono' fun u H4 w4 ⟨h4, k4⟩ => ?_
            simp (disch := omega) [-getElem?_pos, if_pos, if_neg, decide_eq_true, decide_eq_false, e0, e1, e4]
            exact ⟨N.length - k, by omega, k, _, by rw [swapL_length], by simp [e0], by simp [e4], by simp, w4, (k1.trans' k3).trans' k4, by rw [swapL_length]; omega, h4, hU⟩
          | false =>
            rw [if_neg (by rw [hy]; simp)] at hU
            simp (disch := omega) [-getElem?_pos, if_pos, if_neg, decide_eq_true, decide_eq_false, e0, e1, e4]
            exact ⟨N.length - k, by omega, k, N, rfl, by simp [e0], by simp [e4], by simp, w3, k1.trans' k3, by omega, h3, hU⟩
  · rcases hex with rfl | rfl
    · simp (disch := omega) [-getElem?_pos, if_pos, if_neg, decide_eq_true, decide_eq_false, ]
      exact hq
    · simp (disch := omega) [-getElem?_pos, if_pos, if_neg, decide_eq_true, decide_eq_false, ]
      exact hq

theorem last_specM {H : AH} {q : Nat} {L : List Ent} (h : HeapR H q L) (h0 : 0 < L.length) : AFn Try.prog F_mmheap_Heap_last [.pointer (some ⟨q, 0, none⟩)] H fun u H' => u = .int .i64 (lastM L : Nat) ∧ H' = H := by
  have hln := h.len
  obtain ⟨v, h1, h2, h3⟩ := id h
  obtain ⟨a, c, rfl⟩ := h2.slice
  obtain ⟨m, hm⟩ : ∃ m : Nat, m = min 1 (L.length - 1) := ⟨_, rfl⟩
  have hmi : (if (L.length : Int) - 1 < 1 then (L.length : Int) - 1 else 1) = (m : Int) := by split <;> omega
  have hl : lastM L = if 2 < L.length ∧ aheadL L 2 1 false = true then 2 else m := by unfold lastM; rw [hm]
  rw [hl]
  refine AFn.enter mixed ir_mmheap_Heap_last_eq (by simp [ir_mmheap_Heap_last]) fun hw => ?_
  by_cases h2l : 2 < L.length
  · simp (disch := omega) [-getElem?_pos, if_pos, if_neg, decide_eq_true, decide_eq_false, ir_mmheap_Heap_last, h1, hmi, h2l, IntWalk.i64_in, show (2:Int) < (L.length:Int) by omega]
    refine AFn.pure (ahead_spec (i := 2) (k := 1) h h2l (by omega) false) ?_
    cases hx : aheadL L 2 1 false with
    | true => simp (disch := omega) [-getElem?_pos, if_pos, if_neg, decide_eq_true, decide_eq_false, h2l]
    | false =>
      simp (disch := omega) [-getElem?_pos, if_pos, if_neg, decide_eq_true, decide_eq_false, h2l]
      omega
  · simp (disch := omega) [-getElem?_pos, if_pos, if_neg, decide_eq_true, decide_eq_false, ir_mmheap_Heap_last, h1, hmi, h2l, IntWalk.i64_in, show ¬ (2:Int) < (L.length:Int) by omega]
end Go.Proofs.Ytjcncbejnplakaa
