/-
  DeheapCuts: the walk.
-/
import Derived.Test.YtgecnmjohhmfjaaLaw07
set_option maxRecDepth 100000
set_option linter.unusedSimpArgs false
set_option linter.unusedVariables false
namespace Go.Proofs.Ytgecnmjohhmfjaa
open Go Go.Abs
abbrev ent0 (T : Nat) : Blk := .row [.int .i64 0, .int .i64 0, .int .i64 0, .int .i64 0] T true
theorem cutE (x : Ent) : cut [Value.int .i64 x.b, .int .i64 x.d, .int .i64 x.s, .int .i64 x.i] 0 4 = some [Value.int .i64 x.b, .int .i64 x.d, .int .i64 x.s, .int .i64 x.i] := rfl
theorem blk0 (H : AH) (T : Nat) : (H.alloc (ent0 T)).blk H.next = some (ent0 T) := AH.alloc_blk_new
theorem getE_drop {L : List Ent} {k i : Nat} : getE (L.drop k) i = getE L (k + i) := by unfold getE; rw [List.getElem?_drop]
theorem srt_le {L : List Ent} (h : Srt Ent.lt L) {i k : Nat} (hik : i < k) (hk : k < L.length) : (getE L k).lt (getE L i) = false := by
  unfold Srt at h
  rw [List.pairwise_iff_getElem] at h
  have := h i k (by omega) hk hik
  rwa [getE_eq hk, getE_eq (show i < L.length by omega)]
theorem lt_bound {x y : Ent} (h : y.lt x = false) : x.b ≤ y.b := by
  have h' : ¬ (y.lt x = true) := by simp [h]
  rw [lt_iff] at h'
  omega
def CuI (H : AH) (lv : Value) (L : List Ent) (i : Nat) (env : Env) (H' : AH) : Prop :=
  env 26 = some lv ∧ env 27 = some (.int .i64 L.length) ∧ env 28 = some (.int .i64 i) ∧ WF H' ∧ Keep [] H H' ∧ ∃ out T, env 7 = some out ∧ DatAt H' out (L.take i) T ∧ ∀ b ∈ T, H.next ≤ b
def CuQ (H : AH) (L : List Ent) (e : AExit) (env : Env) (H' : AH) : Prop := e = .exit 0 ∧ WF H' ∧ Keep [] H H' ∧ ∃ out T, env 7 = some out ∧ DatAt H' out L T ∧ ∀ b ∈ T, H.next ≤ b
theorem cuts_l4 {H : AH} {lv : Value} {L : List Ent} (hw : WF H) (hL : EntsV (fun _ => True) H lv L) (hl : L.length ≤ 1000) {env : Env} (h : CuI H lv L 0 env H) : wpC Try.prog 121 (.loop ir_law07_DeheapCuts_l4) (CuQ H L) env H := by
  refine loop_upto L.length (CuI H lv L) (Q := CuQ H L) h ?_
  rintro i env H' hi ⟨e26, e27, e28, w', k', out, T, e7, hO, hT⟩
  by_cases hin : i < L.length
  · obtain ⟨b0, off, sp, cap, cs, rfl, q1, q2⟩ := ents_at (hL.1.kept hw k') (by omega)
    have q3 := q2 i hin
    have hlt : (L.take i).length = i := by rw [List.length_take]; omega
    have ht : L.take (i + 1) = L.take i ++ [getE L i] := by rw [List.take_succ_eq_append_getElem hin, getE_eq hin]
    generalize getE L i = x at *
    have kb : Keep [] H' (H'.alloc (.row x.cells T_secateurlaw07_Entry true)) := .alloc
    have wb := WF.alloc w' (B := .row x.cells T_secateurlaw07_Entry true)
    have hn : (H'.alloc (.row x.cells T_secateurlaw07_Entry true)).next = H'.next + 1 := rfl
    obtain ⟨a', c', H5, T', p1, p2, p3, p4, p5⟩ := (hO.kept w' kb).push wb x (by omega)
    obtain ⟨oa, oc, rfl⟩ := hO.1.slice
    rw [hlt] at p1 p2
    have hb0 := blk0 H' T_secateurlaw07_Entry
    have hn' := k'.next
    simp only [Ent.cells] at p1 q3
    simp (disch := omega) [-getElem?_pos, if_pos, if_neg, decide_eq_true, decide_eq_false, ir_law07_DeheapCuts_l4, e7, e26, e27, e28, q1, q3, writeA_row hb0, over, cutE, hlt, IntWalk.i64_in]
    refine AFn.pure (of7_spec x) ?_
    simp (disch := omega) [-getElem?_pos, if_pos, if_neg, decide_eq_true, decide_eq_false, e7, e26, e27, e28, elemsA, hlt, p1, cutE, IntWalk.i64_in]
    refine ⟨hin, by simp [e26], by simp [e27], by simp, p4, (k'.trans' kb).trans p3 fun b hb h2 => by have := hT b hb; omega, _, T', (by simp; rfl), by rw [ht]; exact p2, fun b hb => (p5 b hb).elim (hT b) fun h => by omega⟩
  · obtain rfl : i = L.length := by omega
    simp (disch := omega) [-getElem?_pos, if_pos, if_neg, decide_eq_true, decide_eq_false, ir_law07_DeheapCuts_l4, e26, e27, e28]
    rw [List.take_length] at hO
    exact ⟨rfl, w', k', out, T, e7, hO, hT⟩
def ScanI (H : AH) (ta tb tc : Nat) (v : Value) (n : Nat) (X : Env → Prop) (i : Nat) (env : Env) (H' : AH) : Prop := env ta = some v ∧ env tb = some (.int .i64 n) ∧ env tc = some (.int .i64 i) ∧ X env ∧ WF H' ∧ Keep [] H H'
def ScanQ (H : AH) (x : Nat) (e : AExit) (env : Env) (H' : AH) : Prop := e = .exit x ∧ WF H' ∧ Keep [] H H'
theorem cuts_l3 {H : AH} {v : Value} {L : List Ent} {bd : Int} (hw : WF H) (hL : EntsV (fun _ => True) H v L) (hl : L.length ≤ 1000) (hb : ∀ p, p < L.length → bd ≤ (getE L p).b) {env : Env} (h : ScanI H 56 57 58 v L.length (fun env => env 1 = some (.int .i64 bd)) 0 env H) : wpC Try.prog 121 (.loop ir_law07_DeheapCuts_l3) (ScanQ H 2) env H := by
  refine loop_upto L.length _ (Q := ScanQ H 2) h ?_
  rintro i env H' hi ⟨ea, eb, ec, e1, w', k'⟩
  by_cases hin : i < L.length
  · obtain ⟨b0, off, sp, cap, cs, rfl, q1, q2⟩ := ents_at (hL.1.kept hw k') (by omega)
    have q3 := q2 i hin
    have h3 := hb i hin
    generalize getE L i = x at *
    have hb0 := blk0 H' T_key_Entry
    have kb : Keep [] H' (H'.alloc (.row x.cells T_key_Entry true)) := .alloc
    have wb := WF.alloc w' (B := .row x.cells T_key_Entry true)
    simp only [Ent.cells] at q3 kb wb
    simp (disch := omega) [-getElem?_pos, if_pos, if_neg, decide_eq_true, decide_eq_false, ir_law07_DeheapCuts_l3, ea, eb, ec, e1, q1, q3, writeA_row hb0, over, cutE, IntWalk.i64_in]
    exact ⟨hin, by simp [ea], by simp [eb], by simp, by simp [e1], wb, k'.trans' kb⟩
  · obtain rfl : i = L.length := by omega
    simp (disch := omega) [-getElem?_pos, if_pos, if_neg, decide_eq_true, decide_eq_false, ir_law07_DeheapCuts_l3, ea, eb, ec]
    exact ⟨rfl, w', k'⟩
theorem cuts_l2 {H : AH} {v : Value} {L : List Ent} {bd : Int} (hw : WF H) (hL : EntsV (fun _ => True) H v L) (hl : L.length ≤ 1000) (hb : ∀ p, p < L.length → (getE L p).b < bd) {env : Env} (h : ScanI H 69 70 71 v L.length (fun env => env 1 = some (.int .i64 bd)) 0 env H) : wpC Try.prog 121 (.loop ir_law07_DeheapCuts_l2) (ScanQ H 4) env H := by
  refine loop_upto L.length _ (Q := ScanQ H 4) h ?_
  rintro i env H' hi ⟨ea, eb, ec, e1, w', k'⟩
  by_cases hin : i < L.length
  · obtain ⟨b0, off, sp, cap, cs, rfl, q1, q2⟩ := ents_at (hL.1.kept hw k') (by omega)
    have q3 := q2 i hin
    have h3 := hb i hin
    generalize getE L i = x at *
    have hb0 := blk0 H' T_key_Entry
    have kb : Keep [] H' (H'.alloc (.row x.cells T_key_Entry true)) := .alloc
    have wb := WF.alloc w' (B := .row x.cells T_key_Entry true)
    simp only [Ent.cells] at q3 kb wb
    simp (disch := omega) [-getElem?_pos, if_pos, if_neg, decide_eq_true, decide_eq_false, ir_law07_DeheapCuts_l2, ea, eb, ec, e1, q1, q3, writeA_row hb0, over, cutE, IntWalk.i64_in]
    exact ⟨hin, by simp [ea], by simp [eb], by simp, by simp [e1], wb, k'.trans' kb⟩
  · obtain rfl : i = L.length := by omega
    simp (disch := omega) [-getElem?_pos, if_pos, if_neg, decide_eq_true, decide_eq_false, ir_law07_DeheapCuts_l2, ea, eb, ec]
    exact ⟨rfl, w', k'⟩
theorem cuts_l0 {H : AH} {v : Value} {L : List Ent} {q : Nat} {x : Ent} (hw : WF H) (hL : EntsV (fun _ => True) H v L) (hl : L.length ≤ 1000) (hq : H.cells q = some x.cells) (hb : ∀ p, p < L.length → (getE L p).lt x = false) {env : Env} (h : ScanI H 110 111 112 v L.length (fun env => env 19 = some (.pointer (some ⟨q, 0, none⟩))) 0 env H) : wpC Try.prog 121 (.loop ir_law07_DeheapCuts_l0) (ScanQ H 8) env H := by
  refine loop_upto L.length _ (Q := ScanQ H 8) h ?_
  rintro i env H' hi ⟨ea, eb, ec, e1, w', k'⟩
  by_cases hin : i < L.length
  · obtain ⟨b0, off, sp, cap, cs, rfl, q1, q2⟩ := ents_at (hL.1.kept hw k') (by omega)
    have q3 := q2 i hin
    have h3 := hb i hin
    have hq' := cells_kept hw k' hq
    have hqn := cells_lt w' hq'
    generalize getE L i = y at *
    have hb0 := blk0 H' T_key_Entry
    have kb : Keep [] H' (H'.alloc (.row y.cells T_key_Entry true)) := .alloc
    have wb := WF.alloc w' (B := .row y.cells T_key_Entry true)
    simp only [Ent.cells] at q3 kb wb hq'
    simp (disch := omega) [-getElem?_pos, if_pos, if_neg, decide_eq_true, decide_eq_false, ir_law07_DeheapCuts_l0, ea, eb, ec, e1, q1, q3, writeA_row hb0, over, cutE, hq', Nat.ne_of_lt hqn, IntWalk.i64_in]
    refine AFn.pure (Less_spec y x) ?_
    rw [h3]
    simp (disch := omega) [-getElem?_pos, if_pos, if_neg, decide_eq_true, decide_eq_false, ea, eb, ec, IntWalk.i64_in]
    exact ⟨hin, by simp [ea], by simp [eb], by simp, by simp [e1], wb, k'.trans' kb⟩
  · obtain rfl : i = L.length := by omega
    simp (disch := omega) [-getElem?_pos, if_pos, if_neg, decide_eq_true, decide_eq_false, ir_law07_DeheapCuts_l0, ea, eb, ec]
    exact ⟨rfl, w', k'⟩
theorem cuts_l1 {H : AH} {v gv : Value} {L G : List Ent} (hw : WF H) (hL : EntsV (fun _ => True) H v L) (hG : EntsV (fun _ => True) H gv G) (hl : L.length ≤ 1000) (hg : G.length ≤ 1000) (hb : ∀ p q, p < L.length → q < G.length → (getE G q).lt (getE L p) = false) {env : Env} (h : ScanI H 104 105 106 v L.length (fun env => env 17 = some gv) 0 env H) : wpC Try.prog 121 (.loop ir_law07_DeheapCuts_l1) (ScanQ H 6) env H := by
  refine loop_upto L.length _ (Q := ScanQ H 6) h ?_
  rintro i env H' hi ⟨ea, eb, ec, e17, w', k'⟩
  by_cases hin : i < L.length
  · obtain ⟨b0, off, sp, cap, cs, rfl, q1, q2⟩ := ents_at (hL.1.kept hw k') (by omega)
    have q3 := q2 i hin
    have h3 := fun q => hb i q hin
    generalize getE L i = x at *
    have hb0 := blk0 H' T_key_Entry
    have kb : Keep [] H' (H'.alloc (.row x.cells T_key_Entry true)) := .alloc
    have wb := WF.alloc w' (B := .row x.cells T_key_Entry true)
    have hc : (H'.alloc (.row x.cells T_key_Entry true)).cells H'.next = some x.cells := AH.cells_alloc_new
    have hG2 := hG.kept hw (k'.trans' kb)
    obtain ⟨ga, gc, rfl⟩ := hG.1.slice
    simp only [Ent.cells] at q3 kb wb hc hG2
    simp (disch := omega) [-getElem?_pos, if_pos, if_neg, decide_eq_true, decide_eq_false, ir_law07_DeheapCuts_l1, ea, eb, ec, e17, q1, q3, writeA_row hb0, over, cutE, IntWalk.i64_in]
    refine wpC_use (cuts_l0 (q := H'.next) (x := x) wb hG2 hg hc h3 ⟨by simp, by simp, by simp, by simp, wb, .refl⟩) ?_
    rintro e env2 H2 ⟨rfl, w2, k2⟩ hu
    have u1 := hu 104 (by decide)
    have u2 := hu 105 (by decide)
    have u3 := hu 106 (by decide)
    have u4 := hu 17 (by decide)
    simp (disch := omega) [-getElem?_pos, if_pos, if_neg, decide_eq_true, decide_eq_false, u1, u2, u3, u4, ea, eb, ec, IntWalk.i64_in]
    exact ⟨hin, by simp [u1, ea], by simp [u2, eb], by simp, by simp [u4, e17], w2, (k'.trans' kb).trans' k2⟩
  · obtain rfl : i = L.length := by omega
    simp (disch := omega) [-getElem?_pos, if_pos, if_neg, decide_eq_true, decide_eq_false, ir_law07_DeheapCuts_l1, ea, eb, ec]
    exact ⟨rfl, w', k'⟩
theorem DeheapCuts_abs {H : AH} {v : Value} {L : List Ent} {bd n : Int} (h : Rd H 4 v L.length (cellsE L)) : AFn Try.prog F_law07_DeheapCuts [v, .int .i64 bd, .int .i64 n] H fun u H' => u = .bool true ∧ H' = H := by
  refine AFn.calm (fun H0 hs => ?_) rfl
  refine AFn.enter mixed ir_law07_DeheapCuts_eq (by simp [ir_law07_DeheapCuts]) fun hw => ?_
  obtain ⟨m, hm⟩ : ∃ m : Nat, m = min L.length 40 := ⟨_, rfl⟩
  obtain ⟨lv, hsl, hv, _⟩ := (h.vw'.same hs).sl h.spOk (m := m) (by omega)
  obtain ⟨A, hA⟩ : ∃ A, A = L.take m := ⟨_, rfl⟩
  have hAm : A.length = m := by rw [hA, List.length_take]; omega
  rw [cellsE_take, ← hA, ← hAm] at hv
  have hAl : A.length ≤ 40 := by omega
  have hL : EntsV (fun _ => True) H0 lv A := ⟨hv, by omega⟩
  obtain ⟨a, c, rfl⟩ := h.slice
  obtain ⟨la, lc, rfl⟩ := hv.slice
  have hmm : (if (40 : Int) < (L.length : Int) then (40 : Int) else (L.length : Int)) = (m : Int) := by split <;> omega
  clear hm hA
  simp (disch := omega) [-getElem?_pos, if_pos, if_neg, decide_eq_true, decide_eq_false, ir_law07_DeheapCuts, ↓ieval_slhi, hmm, hsl]
  refine wpC_use (cuts_l4 hw hL (by omega) ⟨by simp, by simp, by simp, hw, .refl, .slice none 0 0, [], by simp, ⟨by simpa [cellsE] using Own.nil, by simp⟩, by simp⟩) ?_
  rintro e env2 H1 ⟨rfl, w1, k1, av, T1, e7, hO1, hT1⟩ hu
  have u1 := hu 1 (by decide)
  have u2 := hu 2 (by decide)
  obtain ⟨aa, ac, rfl⟩ := hO1.1.slice
  simp (disch := omega) [-getElem?_pos, if_pos, if_neg, decide_eq_true, decide_eq_false, e7, u1, u2]
  refine (Bulk_spec (k := false) (most := 40) hO1.ents (by omega) (by omega) (by omega)).mono' fun u H2 w2 ⟨d, S, hu2, hD2, k2, hS2⟩ => ?_
  subst hu2
  have hMl : (sortL Ent.lt A).length = A.length := sort_length A
  have hMs := sortL_srt isOrd A
  generalize sortL Ent.lt A = M at *
  simp (disch := omega) [-getElem?_pos, if_pos, if_neg, decide_eq_true, decide_eq_false, e7, u1, u2]
  refine AFn.pure wakes7_spec ?_
  simp (disch := omega) [-getElem?_pos, if_pos, if_neg, decide_eq_true, decide_eq_false, e7, u1, u2]
  refine (DDrop_spec hD2 bd).mono' fun u H3 w3 ⟨j, hj, hD3, k3, ⟨T3, hO3, hT3⟩, hall, hjj⟩ => ?_
  have hol : (M.drop j).length = M.length - j := by simp
  obtain ⟨oa, oc, rfl⟩ := hO3.1.slice
  have hbelow : ∀ p, p < j → (getE M p).b < bd := fun p hp => by
    rcases hjj with h | h
    · omega
    · by_cases hpj : p = j - 1
      · rw [hpj]; exact h
      · have := lt_bound (srt_le hMs (show p < j - 1 by omega) (by omega)); omega
  simp (disch := omega) [-getElem?_pos, if_pos, if_neg, decide_eq_true, decide_eq_false, e7, u1, u2]
  refine wpC_use (cuts_l3 (bd := bd) w3 hO3.ents (by omega) (fun p hp => by rw [getE_drop]; exact hall _ (by omega) (by omega)) ⟨by simp, by simp, by simp, by simp [u1], w3, .refl⟩) ?_
  rintro e env3 H4 ⟨rfl, w4, k4⟩ hu3
  have v1 := hu3 1 (by decide)
  have v2 := hu3 2 (by decide)
  have v7 := hu3 7 (by decide)
  have v10 := hu3 10 (by decide)
  have v12 := hu3 12 (by decide)
  have hD4 := hD3.kept w3 k4
  simp (disch := omega) [-getElem?_pos, if_pos, if_neg, decide_eq_true, decide_eq_false, v1, v2, v7, v10, v12, e7, u1, u2]
  refine (DSorted_spec hD4).mono' fun u H5 w5 ⟨T5, hO5, k5, hT5⟩ => ?_
  obtain ⟨sa, sc, rfl⟩ := hO5.1.slice
  have htl : (M.take j).length = j := by rw [List.length_take]; omega
  simp (disch := omega) [-getElem?_pos, if_pos, if_neg, decide_eq_true, decide_eq_false, v1, v2, v7, v10, v12, e7, u1, u2]
  refine wpC_use (cuts_l2 (bd := bd) w5 hO5.ents (by omega) (fun p hp => by rw [getE_take (by omega)]; exact hbelow p (by omega)) ⟨by simp [htl], by simp [htl], by simp, by simp [v1, u1], w5, .refl⟩) ?_
  rintro e env4 H6 ⟨rfl, w6, k6⟩ hu4
  have x1 := hu4 1 (by decide)
  have x2 := hu4 2 (by decide)
  have x7 := hu4 7 (by decide)
  have x10 := hu4 10 (by decide)
  have x12 := hu4 12 (by decide)
  have hD6 := (hD4.kept w4 k5).kept w5 k6
  simp (disch := omega) [-getElem?_pos, if_pos, if_neg, decide_eq_true, decide_eq_false, x1, x2, x7, x10, x12, v1, v2, v7, v10, v12, e7, u1, u2]
  refine AFn.pure (DLen_spec hD6) ?_
  have e1 : ((M.length - j : Nat) : Int) + (j : Int) = (A.length : Int) := by omega
  have hNe : ∃ N : Nat, (N : Int) = min (max n 0) (M.take j).length := ⟨(min (max n 0) ((M.take j).length : Int)).toNat, by omega⟩
  obtain ⟨N, hN⟩ := hNe
  rw [htl] at hN
  simp (disch := omega) [-getElem?_pos, if_pos, if_neg, decide_eq_true, decide_eq_false, x1, x2, x7, x10, x12, v1, v2, v7, v10, v12, e7, u1, u2, hol, htl, e1, IntWalk.i64_in]
  refine (DEvict_spec hD6 n N (by rw [htl]; exact hN)).mono' fun u H7 w7 ⟨hD7, k7, T7, hO7, hT7⟩ => ?_
  obtain ⟨ga, gc, rfl⟩ := hO7.1.slice
  have hgl : ((M.take j).reverse.take N).length = N := by rw [List.length_take, List.length_reverse, htl]; omega
  have e2 : (A.length : Int) - ((M.length - j : Nat) : Int) = (j : Int) := by omega
  have e3 : (if (j : Int) < (if n > 0 then n else 0) then (j : Int) else (if n > 0 then n else 0)) = (N : Int) := by split <;> split at * <;> omega
  simp (disch := omega) [-getElem?_pos, if_pos, if_neg, decide_eq_true, decide_eq_false, x1, x2, x7, x10, x12, v1, v2, v7, v10, v12, e7, u1, u2, hol, htl, hgl, e2, e3, IntWalk.i64_in]
  refine (DSorted_spec hD7).mono' fun u H8 w8 ⟨T8, hO8, k8, hT8⟩ => ?_
  obtain ⟨fa, fc, rfl⟩ := hO8.1.slice
  have hG := (hO7.kept w7 k8).ents
  rw [htl] at hO8
  have hfl : ((M.take j).take (j - N)).length = j - N := by rw [List.length_take, htl]; omega
  simp (disch := omega) [-getElem?_pos, if_pos, if_neg, decide_eq_true, decide_eq_false, htl]
  refine wpC_use (cuts_l1 w8 hO8.ents hG (by omega) (by omega) (fun p q hp hq => ?_) ⟨by simp <;> omega, by simp <;> omega, by simp, by simp <;> omega, w8, .refl⟩) ?_
  · rw [hfl] at hp
    rw [hgl] at hq
    rw [getE_take (by omega), getE_take (by omega), getE_take (by omega), getE_rev (by omega), htl, getE_take (by omega)]
    exact srt_le hMs (by omega) (by omega)
  · rintro e env5 H9 ⟨rfl, w9, k9⟩ _
    simp (disch := omega) [-getElem?_pos, if_pos, if_neg, decide_eq_true, decide_eq_false, ]
end Go.Proofs.Ytgecnmjohhmfjaa
