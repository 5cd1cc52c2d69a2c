/-
  DeheapAlike (3): the rounds; the law.
-/
import Derived.Test.YtgecnmjohhmfjaaAlike2
set_option maxRecDepth 100000
set_option linter.unusedSimpArgs false
set_option linter.unusedVariables false
namespace Go.Proofs.Ytgecnmjohhmfjaa
open Go Go.Abs
def A2I (H0 : AH) (d1 d2 : Nat) (sv : Value) (n i : Nat) (env : Env) (H' : AH) : Prop :=
  env 5 = some (pV d1) ∧ env 7 = some (pV d2) ∧ env 73 = some sv ∧ env 74 = some (.int .i64 n) ∧ env 75 = some (.int .i64 i) ∧ ∃ M S T, AlS H0 H' d1 d2 M S T
def A2Q (H0 : AH) (d1 d2 : Nat) (e : AExit) (env : Env) (H' : AH) : Prop := e = .exit 2 ∧ env 5 = some (pV d1) ∧ env 7 = some (pV d2) ∧ ∃ M S T, AlS H0 H' d1 d2 M S T
theorem alike_l2 {H0 H : AH} (hw : WF H0) {d1 d2 : Nat} {sv : Value} {l : List (Int × Ent × Int)} (hl : Vw (fun _ => True) H0 6 sv l.length (cellsD l)) (hn : l.length ≤ 40) {env : Env} (h : A2I H0 d1 d2 sv l.length 0 env H) : wpC Try.prog 182 (.loop ir_law07_DeheapAlike_l2) (A2Q H0 d1 d2) env H := by
  refine loop_upto l.length (A2I H0 d1 d2 sv l.length) (Q := A2Q H0 d1 d2) h ?_
  rintro i env H' hi ⟨e5, e7, e73, e74, e75, M, S, T, hS⟩
  by_cases hin : i < l.length
  · obtain ⟨w', k', _⟩ := id hS
    obtain ⟨b0, off, sp, cap, cs, rfl, q1, q2⟩ := dacts_at (hl.kept hw k') (by omega)
    obtain ⟨z, x, n, q3⟩ := q2 i hin
    clear q2
    have hbn : (H'.alloc (.row [.int .i64 0, .int .i64 0, .int .i64 0, .int .i64 0, .int .i64 0, .int .i64 0] T_secateurlaw07_Act true)).blk H'.next = some (.row [.int .i64 0, .int .i64 0, .int .i64 0, .int .i64 0, .int .i64 0, .int .i64 0] T_secateurlaw07_Act true) := by simp
    obtain ⟨e, he, hez⟩ : ∃ e : Nat, e < 4 ∧ (if 0 < z then z else 0).tmod 4 = (e : Int) := by
      refine ⟨((if 0 < z then z else 0).tmod 4).toNat, ?_, ?_⟩
      · split
        · rw [Int.tmod_eq_emod_of_nonneg (by omega)]; omega
        · simp
      · split
        · rw [Int.tmod_eq_emod_of_nonneg (by omega)]; omega
        · simp
    have hez' : (if z > 0 then z else 0).tmod 4 = (e : Int) := hez
    have hS1 := hS.kept (w'.alloc (B := .row [.int .i64 z, .int .i64 x.b, .int .i64 x.d, .int .i64 x.s, .int .i64 x.i, .int .i64 n] T_secateurlaw07_Act true)) .alloc
    have c12 : (H'.alloc (.row [.int .i64 z, .int .i64 x.b, .int .i64 x.d, .int .i64 x.s, .int .i64 x.i, .int .i64 n] T_secateurlaw07_Act true)).cells H'.next = some [.int .i64 z, .int .i64 x.b, .int .i64 x.d, .int .i64 x.s, .int .i64 x.i, .int .i64 n] := AH.cells_alloc_new
    have hrS : H'.next ∉ S := fun h => by have := hS.2.2.2.2.1.lt w' _ h; omega
    simp (disch := omega) [-getElem?_pos, if_pos, if_neg, decide_eq_true, decide_eq_false, ir_law07_DeheapAlike_l2, ir_law07_DeheapAlike_b3, e5, e7, e73, e74, e75, q1, q3, hin, writeA_row hbn, over, hez, hez', IntWalk.i64_in]
    refine wpC_use (alike_b4 hS1 he c12 (by simp) hrS (by simp [e5]) (by simp [e7]) (by simp) (by simp) (by simp) (by simp)) fun ex env2 H5 ⟨hex, M', S', T', X, v, w, f13, f14, hv, hw5, hS5⟩ hout => ?_
    subst hex
    have f5 := hout 5 (by decide)
    have f7 := hout 7 (by decide)
    have f73 := hout 73 (by decide)
    have f74 := hout 74 (by decide)
    have f75 := hout 75 (by decide)
    simp [e5, e7, e73, e74, e75] at f5 f7 f73 f74 f75
    clear hout
    obtain ⟨va, vc, rfl⟩ := hv.1.slice
    obtain ⟨wa, wc, rfl⟩ := hw5.1.slice
    simp (disch := omega) [-getElem?_pos, if_pos, if_neg, decide_eq_true, decide_eq_false, f5, f7, f13, f14, f73, f74, f75, ir_law07_DeheapAlike_b5]
    refine wpC_use (alike_l1 hv hw5 ⟨rfl, by simp [f13], by simp [f14], by simp, by simp⟩) fun ex env3 H6 ⟨hex, hH⟩ hout => ?_
    subst hex hH
    have g5 := hout 5 (by decide)
    have g7 := hout 7 (by decide)
    have g73 := hout 73 (by decide)
    have g74 := hout 74 (by decide)
    have g75 := hout 75 (by decide)
    simp [f5, f7, f73, f74, f75] at g5 g7 g73 g74 g75
    simp (disch := omega) [-getElem?_pos, if_pos, if_neg, decide_eq_true, decide_eq_false, g5, g7, g73, g74, g75, IntWalk.i64_in]
    exact ⟨hin, by simp [g5], by simp [g7], by simp [g73], by simp [g74], by simp, M', S', T', hS5⟩
  · obtain rfl : i = l.length := by omega
    simp (disch := omega) [-getElem?_pos, if_pos, if_neg, decide_eq_true, decide_eq_false, ir_law07_DeheapAlike_l2, e74, e75]
    exact ⟨rfl, e5, e7, M, S, T, hS⟩
theorem DeheapAlike_abs {H : AH} {v av : Value} {L : List Ent} {l : List (Int × Ent × Int)} (h : Rd H 4 v L.length (cellsE L)) (ha : Rd H 6 av l.length (cellsD l)) : AFn Try.prog F_law07_DeheapAlike [v, av] H fun u H' => u = .bool true ∧ H' = H := by
  refine AFn.calm (fun H0 hs => ?_) rfl
  refine AFn.enter mixed ir_law07_DeheapAlike_eq (by simp [ir_law07_DeheapAlike]) fun hw => ?_
  obtain ⟨m, hm⟩ : ∃ m : Nat, m = min L.length 30 := ⟨_, rfl⟩
  obtain ⟨lv, hsl, hv, _⟩ := (h.vw'.same hs).sl h.spOk (m := m) (by omega)
  obtain ⟨A, hA⟩ : ∃ A, A = L.take m := ⟨_, rfl⟩
  have hAm : A.length = m := by rw [hA, List.length_take]; omega
  rw [cellsE_take, ← hA, ← hAm] at hv
  have hL : EntsV (fun _ => True) H0 lv A := ⟨hv, by omega⟩
  obtain ⟨a, c, rfl⟩ := h.slice
  obtain ⟨la, lc, rfl⟩ := hv.slice
  have hmm : (if (30 : Int) < (L.length : Int) then (30 : Int) else (L.length : Int)) = (m : Int) := by split <;> omega
  have hav := ha.vw'.same hs
  obtain ⟨a2, c2, rfl⟩ := ha.slice
  obtain ⟨m2, hm2⟩ : ∃ m2 : Nat, m2 = min l.length 40 := ⟨_, rfl⟩
  have hmm2 : (if (40 : Int) < (l.length : Int) then (40 : Int) else (l.length : Int)) = (m2 : Int) := by split <;> omega
  obtain ⟨B, hB⟩ : ∃ B, B = l.take m2 := ⟨_, rfl⟩
  have hBm : B.length = m2 := by rw [hB, List.length_take]; omega
  obtain ⟨sv, hsl0, hv2, _⟩ := hav.sl ha.spOk (m := m2) (by omega)
  rw [cellsD_take, ← hB, ← hBm] at hv2
  obtain ⟨sa, sc, rfl⟩ := hv2.slice
  simp (disch := omega) [-getElem?_pos, if_pos, if_neg, decide_eq_true, decide_eq_false, ir_law07_DeheapAlike]
  refine (DNew_spec (k := false) (most := 30) ⟨by omega, by omega⟩).mono' fun u H1 w1 ⟨d1, S, hu, hD1, k1, hSn⟩ => ?_
  subst hu
  simp (disch := omega) [-getElem?_pos, if_pos, if_neg, decide_eq_true, decide_eq_false, ]
  refine (DNew_spec (k := true) (most := 30) ⟨by omega, by omega⟩).mono' fun u H2 w2 ⟨d2, T, hu, hD2, k2, hTn⟩ => ?_
  subst hu
  have n1 := k1.next
  have k02 := k1.trans' k2
  have hS0 : AlS H0 H2 d1 d2 [] S T := ⟨w2, k02, hSn, fun b hb => by have := hTn b hb; omega, hD1.kept w1 k2, hD2, fun b hb ht => by have := hTn b ht; have := hD1.lt w1 b hb; omega, .nil⟩
  simp (disch := omega) [-getElem?_pos, if_pos, if_neg, decide_eq_true, decide_eq_false, ]
  refine AFn.pure wakes7_spec ?_
  have hsl2 := slA_heap (H' := H2) hsl
  simp (disch := omega) [-getElem?_pos, if_pos, if_neg, decide_eq_true, decide_eq_false, ir_law07_DeheapAlike_b0, ↓ieval_slhi, hmm, hsl2]
  refine wpC_use (alike_l3 hw hL (by omega) ⟨by simp, by simp, by simp, by simp, by simp, _, S, T, hS0⟩) fun ex env2 H3 ⟨hex, f5, f7, M3, S3, T3, hS3⟩ hout => ?_
  subst hex
  have f1 := hout 1 (by decide)
  have hsl3 := slA_heap (H' := H3) hsl0
  simp (disch := omega) [-getElem?_pos, if_pos, if_neg, decide_eq_true, decide_eq_false, f1, f5, f7, ir_law07_DeheapAlike_b2, ↓ieval_slhi, hmm2, hsl3]
  refine wpC_use (alike_l2 hw hv2 (by omega) ⟨by simp [f5], by simp [f7], by simp, by simp, by simp, M3, S3, T3, hS3⟩) fun ex env3 H4 ⟨hex, g5, g7, M4, S4, T4, hS4⟩ _ => ?_
  subst hex
  obtain ⟨w4, k4, _, _, hDa, hDb, _, _⟩ := hS4
  simp (disch := omega) [-getElem?_pos, if_pos, if_neg, decide_eq_true, decide_eq_false, g5, g7]
  refine (DSorted_spec hDa).mono' fun u H5 w5 ⟨T5, hO5, k5, hT5⟩ => ?_
  simp (disch := omega) [-getElem?_pos, if_pos, if_neg, decide_eq_true, decide_eq_false, g5, g7]
  refine (DSorted_spec (hDb.kept w4 k5)).mono' fun u2 H6 w6 ⟨T6, hO6, k6, hT6⟩ => ?_
  have hO56 : EntsV (fun _ => True) H6 u M4 := hO5.ents.kept w5 k6
  obtain ⟨ua, uc, rfl⟩ := hO56.1.slice
  obtain ⟨wa, wc, rfl⟩ := hO6.1.slice
  simp (disch := omega) [-getElem?_pos, if_pos, if_neg, decide_eq_true, decide_eq_false, ir_law07_DeheapAlike_b7]
  refine wpC_use (alike_l0 hO56 hO6.ents ⟨rfl, by simp, by simp, by simp, by simp⟩) fun ex env4 H7 ⟨hex, hH⟩ _ => ?_
  subst hex hH
  simp (disch := omega) [-getElem?_pos, if_pos, if_neg, decide_eq_true, decide_eq_false, ]
end Go.Proofs.Ytgecnmjohhmfjaa
