/-
  package brute: slices.Delete.
-/
import Derived.Test.YtlcddhgfkkjhkaaBrute3
set_option maxRecDepth 100000
set_option linter.unusedSimpArgs false
set_option linter.unusedVariables false
namespace Go.Proofs.Ytlcddhgfkkjhkaa
open Go Go.Abs

theorem Delete_spec {H : AH} {v : Value} {L : List Int} {S : List Nat} {k : Nat} (hA : OwnL (fun _ => False) H T_int v L S) (hk : k < L.length) (hl : L.length ≤ 1000) : AFn Try.prog F_slices_Delete_Lint_int [v, .int .i64 k, .int .i64 ((k : Int) + 1)] H fun u H' => OwnL (fun _ => False) H' T_int u (L.eraseIdx k) S ∧ Keep S H H' := by
  refine AFn.enter mixed ir_slices_Delete_Lint_int_eq (by simp [ir_slices_Delete_Lint_int]) fun hw => ?_
  obtain ⟨cells, hO, hR, hp⟩ := hA
  obtain ⟨m, hm⟩ : ∃ m, L.length = k + 1 + m := ⟨L.length - (k + 1), by omega⟩
  have hc : cells = L.map (.int .i64) := by
    have hlen := hO.len
    simp only [sz_int, Nat.mul_one] at hlen
    apply List.ext_getElem (by simpa using hlen)
    intro i q1 q2
    obtain ⟨e, _⟩ := hR i (by omega)
    have : (chunk 1 i cells)[0]? = some (.int .i64 L[i]) := by
      have e' : chunk 1 i cells = [.int .i64 L[i]] := e
      rw [e']; rfl
    unfold chunk at this
    rw [List.getElem?_take_of_lt (by omega), List.getElem?_drop, Nat.mul_one, Nat.add_zero, List.getElem?_eq_getElem q1] at this
    simpa using this
  have hI : ∀ x ∈ L, I64 x := fun x hx => by
    obtain ⟨i, hi, rfl⟩ := List.getElem_of_mem hx
    exact (hR i hi).2
  rcases hO with ⟨rfl, h0, _, _⟩ | ⟨b, off, sp, cap, cs, rfl, rfl, hb, hlen, hcap, hcs, hsp⟩
  · omega
  simp only [sz_int, Nat.mul_one] at hlen hcs hsp
  rw [hm] at hcap
  have hx1 : ∀ i (h : i < L.length), cs[off + i]? = some (.int .i64 L[i]) := fun i h => by
    have : (L.map (Value.int IntKind.i64))[i]? = some (.int .i64 L[i]) := by rw [List.getElem?_map, List.getElem?_eq_getElem h]; rfl
    rw [← hc, hcs, List.getElem?_take_of_lt h, List.getElem?_drop] at this
    exact this
  have hbc := AH.cells_of hb
  obtain ⟨D, hD⟩ : ∃ D, D = (L.map (Value.int IntKind.i64)).drop (k + 1) := ⟨_, rfl⟩
  have hDi : ∀ i (h : i < m), D[i]? = some (.int .i64 (L[k + 1 + i]'(by omega))) := fun i h => by rw [hD, List.getElem?_drop, List.getElem?_map, List.getElem?_eq_getElem (show k + 1 + i < L.length by omega)]; rfl
  have hDl : D.length = m := by rw [hD]; simp; omega
  have hkm : ¬ (k : Int) = k + 1 := by omega
  have ht1 : ((k : Int) + (m : Int)).toNat = k + m := by omega
  have ht2 : ((k : Int) + 1 + (m : Int)).toNat = k + 1 + m := by omega
  have hkm1 : k + 1 + m - (k + m) = 1 := by omega
  have hz1 : zeros [Value.int .i64 0] 1 = [.int .i64 0] := rfl
  have hfin : ∀ {H1 : AH} {cs1 : List Value} {c : Nat}, H1.blk b = some (.row cs1 T_int true) → cs1.length = cs.length → (∀ i (h : i < k), cs1[off + i]? = some (.int .i64 (L[i]'(by omega)))) → (∀ i (h : i < m), cs1[off + k + i]? = some (.int .i64 (L[k + 1 + i]'(by omega)))) → Keep [b] H H1 →
      ∃ H2, writeA H1 b (off + (k + m)) [.int .i64 0] = some H2 ∧ OwnL (fun _ => False) H2 T_int (.slice (some ⟨b, off, sp⟩) (k + m) cap) (L.eraseIdx k) [b] ∧ Keep [b] H H2 := by
    intro H1 cs1 c h1 h2 h3 h4 h5
    have w := writeA_row (off := off + (k + m)) (news := [Value.int .i64 0]) h1
    rw [if_pos (by simp; omega)] at w
    refine ⟨_, w, ?_, h5.trans' ⟨Nat.le_refl _, fun a _ ha => AH.set_blk_ne (by simpa using ha)⟩⟩
    have hel : (L.eraseIdx k).length = k + m := by rw [List.length_eraseIdx_of_lt hk]; omega
    refine ⟨(L.eraseIdx k).map (.int .i64), .inr ⟨b, off, sp, cap, _, by rw [hel], rfl, AH.set_blk_same, by rw [over_length (by simp; omega)]; simp; omega, by omega, ?_, hsp⟩, fun i hi => ⟨?_, hI _ (List.mem_of_mem_eraseIdx (List.getElem_mem hi))⟩, by simp⟩
    · rw [hel]
      apply List.ext_getElem?
      intro i
      by_cases hi : i < k + m
      · rw [List.getElem?_take_of_lt (by simpa using hi), List.getElem?_drop, over_get' (by simp; omega), if_neg (by simp; omega), List.getElem?_map, List.getElem?_eraseIdx]
        by_cases hik : i < k
        · rw [if_pos hik, h3 i hik, List.getElem?_eq_getElem (by omega)]; rfl
        · rw [if_neg hik]
          have := h4 (i - k) (by omega)
          rw [show off + k + (i - k) = off + i by omega] at this
          rw [this, List.getElem?_eq_getElem (by omega)]
          have : k + 1 + (i - k) = i + 1 := by omega
          simp [this]
      · rw [List.getElem?_eq_none (by simp; omega), List.getElem?_eq_none (by simp; omega)]
    · show chunk 1 i _ = _
      unfold chunk
      rw [Nat.mul_one]
      have : i < ((L.eraseIdx k).map (Value.int IntKind.i64)).length := by simpa using hi
      rw [List.drop_eq_getElem_cons this]
      simp
  rw [hm]
  by_cases hm0 : m = 0
  · subst hm0
    obtain ⟨H2, w2, r1, r2⟩ := hfin (c := 0) hb rfl (fun i h => hx1 i (by omega)) (fun i h => absurd h (by omega)) .refl
    simp only [Nat.add_zero] at w2 r1
    rcases hsp with rfl | rfl
    · by_cases hck : cap = k + 1
      · subst hck
        simp (disch := omega) [-getElem?_pos, if_pos, if_neg, decide_eq_true, decide_eq_false, ir_slices_Delete_Lint_int, hkm, elemsA, appendA, hz1, w2, IntWalk.i64_in]
        exact ⟨r1, r2⟩
      · simp (disch := omega) [-getElem?_pos, if_pos, if_neg, decide_eq_true, decide_eq_false, ir_slices_Delete_Lint_int, hck, hkm, elemsA, appendA, hz1, w2, IntWalk.i64_in]
        exact ⟨r1, r2⟩
    · simp (disch := omega) [-getElem?_pos, if_pos, if_neg, decide_eq_true, decide_eq_false, ir_slices_Delete_Lint_int, hkm, elemsA, appendA, hz1, w2, IntWalk.i64_in]
      exact ⟨r1, r2⟩
  · have hE : ∀ sp' c', elemsA H 1 (.slice (some ⟨b, off + (k + 1), sp'⟩) m c') = some D := fun sp' c' => by
      simp only [elemsA, hm0, if_false, hbc, Option.bind_some, Nat.mul_one]
      rw [cut_eq (by omega)]
      congr 1
      apply List.ext_getElem?
      intro i
      by_cases hi : i < m
      · rw [List.getElem?_take_of_lt hi, List.getElem?_drop, hDi i hi, ← hx1 (k + 1 + i) (by omega)]; congr 1; omega
      · rw [List.getElem?_eq_none (by simp; omega), List.getElem?_eq_none (by omega)]
    have hP : appendA H T_int 1 8 (.slice (some ⟨b, off, sp⟩) k cap) m D = some (.slice (some ⟨b, off, sp⟩) (k + m) cap, H.set b (.row (over cs (off + k) D) T_int true)) := by
      simp only [appendA, hm0, if_false]
      rw [if_pos (by omega), Nat.mul_one, writeA_of hb (by omega)]; rfl
    have hck : ¬ cap = k + 1 := by omega
    obtain ⟨H2, w2, r1, r2⟩ := hfin (c := 0) (H1 := H.set b (.row (over cs (off + k) D) T_int true)) AH.set_blk_same (over_length (by omega)) (fun i h => by rw [over_get' (by omega), if_neg (by omega)]; exact hx1 i (by omega)) (fun i h => by rw [over_get' (by omega), if_pos (by omega), show off + k + i - (off + k) = i by omega]; exact hDi i h) ⟨Nat.le_refl _, fun a _ ha => AH.set_blk_ne (by simpa using ha)⟩
    rcases hsp with rfl | rfl
    · simp (disch := omega) [-getElem?_pos, if_pos, if_neg, decide_eq_true, decide_eq_false, ir_slices_Delete_Lint_int, hck, hkm, hE, hP, ht1, ht2, hkm1, hz1, w2, IntWalk.i64_in]
      exact ⟨r1, r2⟩
    · simp (disch := omega) [-getElem?_pos, if_pos, if_neg, decide_eq_true, decide_eq_false, ir_slices_Delete_Lint_int, hkm, hE, hP, ht1, ht2, hkm1, hz1, w2, IntWalk.i64_in]
      exact ⟨r1, r2⟩
end Go.Proofs.Ytlcddhgfkkjhkaa
