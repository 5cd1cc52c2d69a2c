/-
  slices.Reverse: of numbers, in place.
-/
import Derived.Test.YtlcddhgfkkjhkaaBrute4
set_option maxRecDepth 100000
set_option linter.unusedSimpArgs false
set_option linter.unusedVariables false
namespace Go.Abs
/-- Numbers in a block's cells, from a place on. -/
def At0 (cs : List Value) (o : Nat) (L : List Int) : Prop := ∀ i (h : i < L.length), cs[o + i]? = some (.int .i64 L[i])
/-- The first and the last k are changed. -/
def revK (L : List Int) (k : Nat) : List Int := (List.range L.length).map fun i => if i < k ∨ L.length ≤ i + k then L.getD (L.length - 1 - i) 0 else L.getD i 0
theorem revK_len {L : List Int} {k : Nat} : (revK L k).length = L.length := by simp [revK]
theorem revK_zero {L : List Int} : revK L 0 = L := by
  apply List.ext_getElem (by simp [revK])
  intro i h1 h2
  simp [revK, h2, show ¬ L.length ≤ i by omega]
theorem revK_all {L : List Int} {k : Nat} (h : L.length ≤ 2 * k + 1) : revK L k = L.reverse := by
  apply List.ext_getElem (by simp [revK])
  intro i h1 h2
  have hi : i < L.length := by simpa [revK] using h1
  rw [List.getElem_reverse]
  simp only [revK, List.getElem_map, List.getElem_range]
  by_cases hc : i < k ∨ L.length ≤ i + k
  · rw [if_pos hc, List.getD_eq_getElem?_getD, List.getElem?_eq_getElem (by omega)]; rfl
  · rw [if_neg hc, List.getD_eq_getElem?_getD, List.getElem?_eq_getElem hi]
    have : L.length - 1 - i = i := by omega
    simp [this]
end Go.Abs
namespace Go.Proofs.Ytlcddhgfkkjhkaa
open Go Go.Abs

def RvI (H : AH) (b o : Nat) (v : Value) (cs : List Value) (L : List Int) (k : Nat) (env : Env) (H' : AH) : Prop :=
  env 0 = some v ∧ env 2 = some (.int .i64 k) ∧ env 3 = some (.int .i64 ((L.length : Int) - 1 - k)) ∧ 2 * k ≤ L.length ∧ WF H' ∧ Keep [b] H H' ∧
    ∃ cs', H'.blk b = some (.row cs' T_int true) ∧ cs'.length = cs.length ∧ At0 cs' o (revK L k) ∧ ∀ i, i < o ∨ o + L.length ≤ i → cs'[i]? = cs[i]?
theorem Reverse_spec {H : AH} {b o c : Nat} {sp : Option Nat} {cs : List Value} {L : List Int} (hb : H.blk b = some (.row cs T_int true)) (ho : o + L.length ≤ cs.length) (hL : At0 cs o L) (hl : L.length ≤ 1000) :
    AFn Try.prog F_slices_Reverse_Lint_int [.slice (some ⟨b, o, sp⟩) L.length c] H fun u H' => WF H' ∧ Keep [b] H H' ∧ ∃ cs', H'.blk b = some (.row cs' T_int true) ∧ cs'.length = cs.length ∧ At0 cs' o L.reverse ∧ ∀ i, i < o ∨ o + L.length ≤ i → cs'[i]? = cs[i]? := by
  refine AFn.enter mixed ir_slices_Reverse_Lint_int_eq (by simp [ir_slices_Reverse_Lint_int]) fun hw => ?_
  simp (disch := omega) [-getElem?_pos, if_pos, if_neg, decide_eq_true, decide_eq_false, ir_slices_Reverse_Lint_int, IntWalk.i64_in]
  refine wpC_use (loop_upto L.length (RvI H b o (.slice (some ⟨b, o, sp⟩) L.length c) cs L) (Q := fun e env H' => e = .exit 0 ∧ WF H' ∧ Keep [b] H H' ∧ ∃ cs', H'.blk b = some (.row cs' T_int true) ∧ cs'.length = cs.length ∧ At0 cs' o L.reverse ∧ ∀ i, i < o ∨ o + L.length ≤ i → cs'[i]? = cs[i]?) ⟨by simp, by simp, by simp, by omega, hw, .refl, cs, hb, rfl, by rw [revK_zero]; exact hL, fun _ _ => rfl⟩ ?_) ?_
  · rintro k env H' hk ⟨e0, e2, e3, h2k, w', k', cs', hb', hlen, hat, hout⟩
    have hbn := w' b _ hb'
    by_cases hkn : (k : Int) < (L.length : Int) - 1 - k
    · obtain ⟨j, hj⟩ : ∃ j : Nat, j = L.length - 1 - k := ⟨_, rfl⟩
      have hjj : (L.length : Int) - 1 - k = j := by omega
      have hkj : k < j := by omega
      have hrl := revK_len (L := L) (k := k)
      have hge : ∀ i (h : i < L.length), (revK L k)[i]'(by omega) = if i < k ∨ L.length ≤ i + k then L.getD (L.length - 1 - i) 0 else L.getD i 0 := fun i h => by simp [revK]
      have hge1 : ∀ i (h : i < L.length), (revK L (k + 1))[i]'(by rw [revK_len]; exact h) = if i < k + 1 ∨ L.length ≤ i + (k + 1) then L.getD (L.length - 1 - i) 0 else L.getD i 0 := fun i h => by simp [revK]
      have x1 := hat k (by omega)
      have x2 := hat j (by omega)
      rw [hge k (by omega), if_neg (by omega)] at x1
      rw [hge j (by omega), if_neg (by omega)] at x2
      rw [hjj] at e3
      have hkl : k < L.length := by omega
      have hjl : j < L.length := by omega
      generalize hx : L.getD k 0 = x at *
      generalize hy : L.getD j 0 = y at *
      have cb := AH.cells_of hb'
      have wr1 := writeA_of (off := o + k) (news := [Value.int .i64 y]) hb' (by simp; omega)
      have hl1 : (over cs' (o + k) [Value.int .i64 y]).length = cs'.length := over_length (by simp; omega)
      have wr2 := writeA_of (H := H'.set b (.row (over cs' (o + k) [Value.int .i64 y]) T_int true)) (off := o + j) (news := [Value.int .i64 x]) AH.set_blk_same (by simp [hl1]; omega)
      generalize hcc : over (over cs' (o + k) [Value.int .i64 y]) (o + j) [Value.int .i64 x] = cs2 at *
      have hl2 : cs2.length = cs.length := by rw [← hcc, over_length (by simp [hl1]; omega), hl1, hlen]
      have hg2 : ∀ i, cs2[i]? = if i = o + j then some (.int .i64 x) else if i = o + k then some (.int .i64 y) else cs'[i]? := fun i => by
        rw [← hcc, over_get' (by simp [hl1]; omega), over_get' (by simp; omega)]
        simp only [List.length_cons, List.length_nil]
        by_cases h1 : i = o + j
        · subst h1; simp
        · rw [if_neg (by omega), if_neg h1]
          by_cases h2 : i = o + k
          · subst h2; simp
          · rw [if_neg (by omega), if_neg h2]
      simp (disch := omega) [-getElem?_pos, if_pos, if_neg, decide_eq_true, decide_eq_false, ir_slices_Reverse_Lint_int_l0, e0, e2, e3, hkj, hkl, hjl, cb, x1, x2, wr1, wr2, IntWalk.i64_in]
      refine ⟨by simp [e0], by simp, by simp; omega, by omega, w'.set hbn, k'.trans' ⟨Nat.le_refl _, fun a _ ha => AH.set_blk_ne (by simpa using ha)⟩, cs2, AH.set_blk_same, hl2, fun i hi => ?_, fun i hi => ?_⟩
      · rw [revK_len] at hi
        rw [hge1 i hi, hg2]
        by_cases h1 : i = j
        · subst h1
          rw [if_pos rfl, if_pos (by omega), show L.length - 1 - i = k by omega, hx]
        · by_cases h2 : i = k
          · subst h2
            rw [if_neg (by omega), if_pos rfl, if_pos (by omega), show L.length - 1 - i = j by omega, hy]
          · rw [if_neg (by omega), if_neg (by omega), hat i (by omega), hge i hi]
            by_cases h3 : i < k ∨ L.length ≤ i + k
            · rw [if_pos h3, if_pos (by omega)]
            · rw [if_neg h3, if_neg (by omega)]
      · rw [hg2, if_neg (by omega), if_neg (by omega)]; exact hout i hi
    · simp (disch := omega) [-getElem?_pos, if_pos, if_neg, decide_eq_true, decide_eq_false, ir_slices_Reverse_Lint_int_l0, e0, e2, e3, hkn]
      rw [revK_all (by omega)] at hat
      exact ⟨w', k', cs', hb', hlen, hat, hout⟩
  · rintro e env2 H' ⟨rfl, w', k', cs', h1, h2, h3, h4⟩ hu
    simp (disch := omega) [-getElem?_pos, if_pos, if_neg, decide_eq_true, decide_eq_false, ]
    exact ⟨w', k', cs', h1, h2, h3, h4⟩
end Go.Proofs.Ytlcddhgfkkjhkaa
