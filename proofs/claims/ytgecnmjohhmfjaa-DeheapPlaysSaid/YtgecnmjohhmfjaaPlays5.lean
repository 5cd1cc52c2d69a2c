/-
  DeheapPlays: the walk.
-/
import Derived.Test.YtgecnmjohhmfjaaPlays4
set_option maxRecDepth 100000
set_option linter.unusedSimpArgs false
set_option linter.unusedVariables false
namespace Go.Proofs.Ytgecnmjohhmfjaa
open Go Go.Abs
def DgI (H0 : AH) (d : Nat) (kd : Bool) (sv : Value) (n i : Nat) (env : Env) (H' : AH) : Prop :=
  env 12 = some (pV d) ∧ env 64 = some sv ∧ env 65 = some (.int .i64 n) ∧ env 66 = some (.int .i64 i) ∧ ∃ mv M, env 9 = some mv ∧ PlS H0 H' d kd 25 mv M ∧ Srt Ent.lt M
def DgQ (H0 : AH) (d : Nat) (kd : Bool) (e : AExit) (env : Env) (H' : AH) : Prop := e = .exit 2 ∧ env 12 = some (pV d) ∧ ∃ mv M, env 9 = some mv ∧ PlS H0 H' d kd 25 mv M ∧ Srt Ent.lt M
theorem dplays_l0 {H0 H : AH} (hw : WF H0) {d : Nat} {kd : Bool} {sv : Value} {l : List (Int × Ent × Int)} (hv : Vw (fun _ => True) H0 6 sv l.length (cellsD l)) (hn : l.length ≤ 50) {env : Env} (h : DgI H0 d kd sv l.length 0 env H) : wpC Try.prog 99 (.loop ir_law07_DeheapPlays_l0) (DgQ H0 d kd) env H := by
  refine loop_upto l.length (DgI H0 d kd sv l.length) (Q := DgQ H0 d kd) h ?_
  rintro i env H' hi ⟨e12, e64, e65, e66, mv, M, e9, hS, hM⟩
  by_cases hin : i < l.length
  · obtain ⟨_, _, w', k', _⟩ := id hS
    obtain ⟨b0, off, sp, cap, cs, rfl, q1, q2⟩ := dacts_at (hv.kept hw k') (by omega)
    obtain ⟨z, x, n, q3⟩ := q2 i hin
    clear q2
    have hbn : (H'.alloc (.row [.int .i64 0, .int .i64 0, .int .i64 0, .int .i64 0, .int .i64 0, .int .i64 0] T_secateurlaw07_Act true)).blk H'.next = some (.row [.int .i64 0, .int .i64 0, .int .i64 0, .int .i64 0, .int .i64 0, .int .i64 0] T_secateurlaw07_Act true) := by simp
    have hcx : cut [Value.int .i64 z, .int .i64 x.b, .int .i64 x.d, .int .i64 x.s, .int .i64 x.i, .int .i64 n] 0 6 = some [Value.int .i64 z, .int .i64 x.b, .int .i64 x.d, .int .i64 x.s, .int .i64 x.i, .int .i64 n] := rfl
    have hS1 := hS.kept (w'.alloc (B := .row [.int .i64 z, .int .i64 x.b, .int .i64 x.d, .int .i64 x.s, .int .i64 x.i, .int .i64 n] T_secateurlaw07_Act true)) .alloc
    simp (disch := omega) [-getElem?_pos, if_pos, if_neg, decide_eq_true, decide_eq_false, ir_law07_DeheapPlays_l0, e9, e12, e64, e65, e66, q1, q3, hin, writeA_row hbn, over, hcx, IntWalk.i64_in]
    generalize H'.alloc (.row [.int .i64 z, .int .i64 x.b, .int .i64 x.d, .int .i64 x.s, .int .i64 x.i, .int .i64 n] T_secateurlaw07_Act true) = H1 at *
    obtain ⟨S, P, w1, k1, hSn, hD, hMv, hP⟩ := hS1
    refine (does_spec hD hMv hP ⟨by omega, by omega⟩ hM z x n).mono' fun u H2 w2 ⟨mv', M', S', P', hu, hD2, hM2, hP2, k2, hS2, hs2⟩ => ?_
    subst hu
    have hn1 := k1.next
    have k02 : Keep [] H0 H2 := k1.trans k2 fun b hb _ => by have := hSn b hb; omega
    have hS3 : PlS H0 H2 d kd 25 mv' M' := ⟨S', P', w2, k02, fun b hb => (hS2 b hb).elim (hSn b) fun h => by omega, hD2, hM2, hP2⟩
    obtain ⟨ma, mc, rfl⟩ := hM2.1.slice
    have hle := hD2.le
    simp (disch := omega) [-getElem?_pos, if_pos, if_neg, decide_eq_true, decide_eq_false, e12, e64, e65, e66]
    refine AFn.pure (DLen_spec hD2) ?_
    simp (disch := omega) [-getElem?_pos, if_pos, if_neg, decide_eq_true, decide_eq_false, e12, e64, e65, e66]
    refine AFn.pure (DRoom_spec hD2 ⟨by omega, by omega⟩) ?_
    simp (disch := omega) [-getElem?_pos, if_pos, if_neg, decide_eq_true, decide_eq_false, e12, e64, e65, e66, IntWalk.i64_in]
    exact ⟨hin, by simp [e12], by simp [e64], by simp [e65], by simp, _, M', (by simp), hS3, hs2⟩
  · obtain rfl : i = l.length := by omega
    simp (disch := omega) [-getElem?_pos, if_pos, if_neg, decide_eq_true, decide_eq_false, ir_law07_DeheapPlays_l0, e65, e66]
    exact ⟨rfl, e12, mv, M, e9, hS, hM⟩
theorem slA_heap {H H' H2 : AH} {sz : Nat} {v i : Option Value} {w : Value} (h : slA H sz v i = some (w, H2)) : slA H' sz v i = some (w, H') := by
  unfold slA at h ⊢
  split at h
  · split at h
    · rename_i hc; simp at h; simp [hc, h.1]
    · cases h
  · split at h
    · rename_i hc; simp at h; simp [hc, h.1]
    · cases h
  · split at h
    · rename_i hc
      split at h
      · rename_i ht; subst ht; rw [if_pos hc, if_pos rfl]; simp at h; simp [h]
      · cases h
    · cases h
  · cases h
theorem DeheapPlays_abs {H : AH} {kd : Bool} {v av : Value} {L : List Ent} {l : List (Int × Ent × Int)} (h : Rd H 4 v L.length (cellsE L)) (ha : Rd H 6 av l.length (cellsD l)) : AFn Try.prog F_law07_DeheapPlays [.bool kd, v, av] H fun u H' => u = .bool true ∧ H' = H := by
  refine AFn.calm (fun H0 hs => ?_) rfl
  refine AFn.enter mixed ir_law07_DeheapPlays_eq (by simp [ir_law07_DeheapPlays]) fun hw => ?_
  obtain ⟨m, hm⟩ : ∃ m : Nat, m = min L.length 20 := ⟨_, rfl⟩
  obtain ⟨lv, hsl, hv, _⟩ := (h.vw'.same hs).sl h.spOk (m := m) (by omega)
  obtain ⟨A, hA⟩ : ∃ A, A = L.take m := ⟨_, rfl⟩
  have hAm : A.length = m := by rw [hA, List.length_take]; omega
  rw [cellsE_take, ← hA, ← hAm] at hv
  have hL : EntsV (fun _ => True) H0 lv A := ⟨hv, by omega⟩
  obtain ⟨a, c, rfl⟩ := h.slice
  obtain ⟨la, lc, rfl⟩ := hv.slice
  have hmm : (if (20 : Int) < (L.length : Int) then (20 : Int) else (L.length : Int)) = (m : Int) := by split <;> omega
  have hav := ha.vw'.same hs
  obtain ⟨a2, c2, rfl⟩ := ha.slice
  obtain ⟨m2, hm2⟩ : ∃ m2 : Nat, m2 = min l.length 50 := ⟨_, rfl⟩
  have hmm2 : (if (50 : Int) < (l.length : Int) then (50 : Int) else (l.length : Int)) = (m2 : Int) := by split <;> omega
  obtain ⟨B, hB⟩ : ∃ B, B = l.take m2 := ⟨_, rfl⟩
  have hBm : B.length = m2 := by rw [hB, List.length_take]; omega
  obtain ⟨sv, hsl0, hv2, _⟩ := hav.sl ha.spOk (m := m2) (by omega)
  rw [cellsD_take, ← hB, ← hBm] at hv2
  obtain ⟨sa, sc, rfl⟩ := hv2.slice
  have go : ∀ (env : Env), DpI H0 (.slice la A.length lc) A 0 env H0 → wpC Try.prog 99 (.loop ir_law07_DeheapPlays_l1) (DpQ H0 A) env H0 := fun env he => dplays_l1 hw hL (by omega) he
  have fin : True := trivial
  cases kd with
  | false =>
    simp (disch := omega) [-getElem?_pos, if_pos, if_neg, decide_eq_true, decide_eq_false, ir_law07_DeheapPlays, ↓ieval_slhi, hmm, hsl]
    refine wpC_use (go _ ⟨by simp, by simp, by simp, hw, .refl, .slice none 0 0, .slice none 0 0, [], (fun _ => False), by simp, by simp, ⟨by simpa [cellsE] using Own.nil, by simp⟩, by simp, .nil, fun b hb => hb.elim⟩) ?_
    rintro e env2 H1 ⟨rfl, w1, k1, av1, mv, S1, P, e8, e9, hA1, hS1, hM1, hP1⟩ hu
    have u2 := hu 2 (by decide)
    have u7 := hu 7 (by decide)
    obtain ⟨aa, ac, rfl⟩ := hA1.1.slice
    simp (disch := omega) [-getElem?_pos, if_pos, if_neg, decide_eq_true, decide_eq_false, e8, e9, u2, u7]
    refine (Bulk_spec (k := false) (most := 25) hA1.ents (by omega) (by omega) (by omega)).mono' fun u H2 w2 ⟨d, S, hu2, hD2, k2, hS2⟩ => ?_
    subst hu2
    have hn1 := k1.next
    have hn2 := k2.next
    have k02 := k1.trans' k2
    have hP2 : PlS H0 H2 d false 25 mv (sortL Ent.lt A) := ⟨S, P, w2, k02, fun b hb => by have := hS2 b hb; omega, hD2, hM1.kept w1 k2, fun b hb => ⟨fun h => by have := hS2 b h; have := (hP1 b hb).2; omega, by have := (hP1 b hb).2; omega⟩⟩
    simp (disch := omega) [-getElem?_pos, if_pos, if_neg, decide_eq_true, decide_eq_false, e8, e9, u2, u7]
    refine AFn.pure wakes7_spec ?_
    simp (disch := omega) [-getElem?_pos, if_pos, if_neg, decide_eq_true, decide_eq_false, e8, e9, u2, u7]
    refine AFn.pure (DKind_spec hD2) ?_
    have hsl2 := slA_heap (H' := H2) hsl0
    simp (disch := omega) [-getElem?_pos, if_pos, if_neg, decide_eq_true, decide_eq_false, e8, e9, u2, u7, kI, ↓ieval_slhi, hmm2, hsl2]
    refine wpC_use (dplays_l0 hw (d := d) (kd := false) hv2 (by omega) ⟨by simp, by simp, by simp, by simp, mv, _, by simp [e9], hP2, sortL_srt isOrd A⟩) ?_
    rintro e env3 H3 ⟨rfl, f12, mv3, M3, f9, ⟨S3, P3, w3, k3, hSn3, hD3, hM3, hP3⟩, hs3⟩ _
    simp (disch := omega) [-getElem?_pos, if_pos, if_neg, decide_eq_true, decide_eq_false, f12, f9]
    refine (DSorted_spec hD3).mono' fun u H4 w4 ⟨T, hO4, k4, hT4⟩ => ?_
    simp (disch := omega) [-getElem?_pos, if_pos, if_neg, decide_eq_true, decide_eq_false, f12, f9]
    refine AFn.pure (same7_spec hO4.ents (hM3.kept w3 k4)) ?_
    simp (disch := omega) [-getElem?_pos, if_pos, if_neg, decide_eq_true, decide_eq_false, ]
  | true =>
    simp (disch := omega) [-getElem?_pos, if_pos, if_neg, decide_eq_true, decide_eq_false, ir_law07_DeheapPlays, ↓ieval_slhi, hmm, hsl]
    refine wpC_use (go _ ⟨by simp, by simp, by simp, hw, .refl, .slice none 0 0, .slice none 0 0, [], (fun _ => False), by simp, by simp, ⟨by simpa [cellsE] using Own.nil, by simp⟩, by simp, .nil, fun b hb => hb.elim⟩) ?_
    rintro e env2 H1 ⟨rfl, w1, k1, av1, mv, S1, P, e8, e9, hA1, hS1, hM1, hP1⟩ hu
    have u2 := hu 2 (by decide)
    have u7 := hu 7 (by decide)
    obtain ⟨aa, ac, rfl⟩ := hA1.1.slice
    simp (disch := omega) [-getElem?_pos, if_pos, if_neg, decide_eq_true, decide_eq_false, e8, e9, u2, u7]
    refine (Bulk_spec (k := true) (most := 25) hA1.ents (by omega) (by omega) (by omega)).mono' fun u H2 w2 ⟨d, S, hu2, hD2, k2, hS2⟩ => ?_
    subst hu2
    have hn1 := k1.next
    have hn2 := k2.next
    have k02 := k1.trans' k2
    have hP2 : PlS H0 H2 d true 25 mv (sortL Ent.lt A) := ⟨S, P, w2, k02, fun b hb => by have := hS2 b hb; omega, hD2, hM1.kept w1 k2, fun b hb => ⟨fun h => by have := hS2 b h; have := (hP1 b hb).2; omega, by have := (hP1 b hb).2; omega⟩⟩
    simp (disch := omega) [-getElem?_pos, if_pos, if_neg, decide_eq_true, decide_eq_false, e8, e9, u2, u7]
    refine AFn.pure wakes7_spec ?_
    simp (disch := omega) [-getElem?_pos, if_pos, if_neg, decide_eq_true, decide_eq_false, e8, e9, u2, u7]
    refine AFn.pure (DKind_spec hD2) ?_
    have hsl2 := slA_heap (H' := H2) hsl0
    simp (disch := omega) [-getElem?_pos, if_pos, if_neg, decide_eq_true, decide_eq_false, e8, e9, u2, u7, kI, ↓ieval_slhi, hmm2, hsl2]
    refine wpC_use (dplays_l0 hw (d := d) (kd := true) hv2 (by omega) ⟨by simp, by simp, by simp, by simp, mv, _, by simp [e9], hP2, sortL_srt isOrd A⟩) ?_
    rintro e env3 H3 ⟨rfl, f12, mv3, M3, f9, ⟨S3, P3, w3, k3, hSn3, hD3, hM3, hP3⟩, hs3⟩ _
    simp (disch := omega) [-getElem?_pos, if_pos, if_neg, decide_eq_true, decide_eq_false, f12, f9]
    refine (DSorted_spec hD3).mono' fun u H4 w4 ⟨T, hO4, k4, hT4⟩ => ?_
    simp (disch := omega) [-getElem?_pos, if_pos, if_neg, decide_eq_true, decide_eq_false, f12, f9]
    refine AFn.pure (same7_spec hO4.ents (hM3.kept w3 k4)) ?_
    simp (disch := omega) [-getElem?_pos, if_pos, if_neg, decide_eq_true, decide_eq_false, ]
end Go.Proofs.Ytgecnmjohhmfjaa
