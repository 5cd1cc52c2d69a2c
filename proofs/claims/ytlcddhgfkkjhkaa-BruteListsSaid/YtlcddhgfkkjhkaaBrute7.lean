/-
  package brute: place, Rank.
-/
import Derived.Test.YtlcddhgfkkjhkaaBrute6
import Derived.Test.YtlcddhgfkkjhkaaSlLo
set_option maxRecDepth 100000
set_option linter.unusedSimpArgs false
set_option linter.unusedVariables false
namespace Go.Proofs.Ytlcddhgfkkjhkaa
open Go Go.Abs

theorem restL_i64 {a n : Nat} : True := trivial
/-- The place of an order; is it one? -/
def placeO (n a : Nat) (X : List Int) : Option Nat := if X.length = n ∧ X.take a = restL 0 a then placeL (restL a n) (X.drop a) else none
def PlI (H : AH) (q : Nat) (xv : Value) (X L0 : List Int) (R : Option Nat) (k : Nat) (env : Env) (H' : AH) : Prop :=
  env 31 = some xv ∧ env 32 = some (.int .i64 X.length) ∧ env 33 = some (.int .i64 k) ∧ WF H' ∧ Keep [] H H' ∧
    ∃ w L T, ∃ o : Nat, env 8 = some (.int .i64 o) ∧ env 9 = some w ∧ OwnL (fun _ => False) H' T_int w L T ∧ (∀ b ∈ T, H.next ≤ b) ∧ L.length + k = q ∧ o ≤ 4000000 * k ∧ (placeL L (X.drop k)).map (o + ·) = R
theorem fac_le : ∀ {g : Nat}, g < 10 → fac g ≤ 362880 := by
  have h9 : ∀ N : Fin 10, fac N.1 ≤ 362880 := by decide
  exact fun {g} hg => h9 ⟨g, hg⟩
theorem place_spec {H : AH} {v : Value} {X : List Int} {n a : Nat} (hX : SlV (fun b => b < H.next) H v X) (hn : n ≤ 100) (hf : n - a < 10) (ha : a ≤ n) : AFn Try.prog F_brute_place [.int .i64 n, .int .i64 a, v] H fun u H' => u = maskV (placeO n a X) ∧ Keep [] H H' := by
  obtain ⟨va, vc, rfl⟩ := hX.slice
  have hXm := hX.max
  refine AFn.enter mixed ir_brute_place_eq (by simp [ir_brute_place]) fun hw => ?_
  by_cases hl : X.length = n
  · subst hl
    obtain ⟨x1, sl1, hx1⟩ := hX.sl (m := a) (by omega)
    simp only [sz_int] at sl1
    simp (disch := omega) [-getElem?_pos, if_pos, if_neg, decide_eq_true, decide_eq_false, ir_brute_place, ↓ieval_slhi, ↓ieval_sllo, sl1]
    refine AFnD.from (rest_spec (a := 0) (n := a) (by omega)) fun w H1 w1 ⟨S, hA, k1, hS⟩ => ⟨keep_grow hw k1, ?_⟩
    simp (disch := omega) [-getElem?_pos, if_pos, if_neg, decide_eq_true, decide_eq_false, ]
    refine AFnD.of (Equal_spec (hx1.kept hw k1).any (hA.slv (q := fun _ => True) (fun _ _ => trivial) (fun _ _ => trivial) (by rw [restL_len]; omega))) ?_
    by_cases he : X.take a = restL 0 a
    · simp (disch := omega) [-getElem?_pos, if_pos, if_neg, decide_eq_true, decide_eq_false, he]
      refine (rest_spec (a := a) (n := X.length) (by omega)).mono' fun w H2 w2 ⟨T, hB, k2, hT⟩ => ?_
      have k12 := k1.trans' k2
      have hX2 := hX.kept hw k12
      obtain ⟨x2, sl2, hx2⟩ := hX2.dr (m := a) (by omega)
      obtain ⟨wa, wc, rfl⟩ := hB.slice
      obtain ⟨xa, xc, rfl⟩ := hx2.slice
      have hn1 := k1.next
      simp only [sz_int] at sl2
      have hpO : placeO X.length a X = placeL (restL a X.length) (X.drop a) := by unfold placeO; rw [if_pos ⟨rfl, he⟩]
      have hdl : (X.drop a).length = X.length - a := by rw [List.length_drop]
      simp (disch := omega) [-getElem?_pos, if_pos, if_neg, decide_eq_true, decide_eq_false, ↓ieval_sllo, sl2]
      rw [hpO]
      generalize hR : placeL (restL a X.length) (X.drop a) = R
      generalize hY : X.drop a = Y at *
      refine wpC_use (loop_upto Y.length (PlI H Y.length (.slice xa Y.length xc) Y (restL a X.length) R) (Q := fun e env H' => (e = .exit 0 ∧ ∃ o : Nat, env 8 = some (.int .i64 o) ∧ R = some o ∧ Keep [] H H') ∨ (e = .ret ∧ R = none ∧ env 6 = some (.int .i64 0) ∧ env 7 = some (.bool false) ∧ Keep [] H H')) ⟨by simp [hdl], by simp [hdl], by simp, w2, k12, _, restL a X.length, T, 0, by simp, by simp, hB, fun b hb => by have := hT b hb; omega, by rw [restL_len, hdl]; omega, by omega, by simp [hR]⟩ ?_) ?_
      · rintro k env H' hk ⟨e31, e32, e33, w', k', w, L, T, o, e8, e9, hL, hT, hlk, ho, hRR⟩
        obtain ⟨wa, wc, rfl⟩ := hL.slice
        have hx' := hx2.sub (H' := H') fun b hb cs hc => by
          unfold AH.cells at hc ⊢
          rw [k12.blk b hb (by simp)] at hc
          rw [k'.blk b hb (by simp)]; exact hc
        by_cases hkn : k < Y.length
        · obtain ⟨b, off, sp, cap, cs, ev, q1, q2⟩ := ints_rd hx' (by omega)
          obtain ⟨q3, q4⟩ := q2 k hkn
          cases ev
          rw [List.drop_eq_getElem_cons hkn] at hRR
          generalize Y[k] = y at *
          unfold placeL at hRR
          simp (disch := omega) [-getElem?_pos, if_pos, if_neg, decide_eq_true, decide_eq_false, ir_brute_place_l0, e31, e32, e33, e8, e9, q1, q3, IntWalk.i64_in]
          refine AFn.pure (Index_spec (hL.slv (q := fun _ => True) (fun _ _ => trivial) (fun _ _ => trivial) (by omega))) ?_
          unfold idxV
          by_cases hm : y ∈ L
          · have hi := List.idxOf_lt_length_of_mem hm
            rw [if_pos hm] at hRR
            obtain ⟨g, hg⟩ : ∃ g, L.length = g + 1 := ⟨L.length - 1, by omega⟩
            have hg10 : g < 10 := by omega
            generalize hiy : L.idxOf y = i at *
            simp (disch := omega) [-getElem?_pos, if_pos, if_neg, decide_eq_true, decide_eq_false, hm, e31, e32, e33, e8, e9, hg, IntWalk.i64_in]
            refine (upTo_spec _).mono' fun u H3 w3 hu => ?_
            simp (disch := omega) [-getElem?_pos, if_pos, if_neg, decide_eq_true, decide_eq_false, ]
            refine (part_spec (n := g) rfl hg10 hu).mono' fun u2 H4 w4 ⟨hu2, hk2⟩ => ?_
            subst hu2
            have hL4 := hL.kept w' hk2
            have hFl := fac_le hg10
            rw [hg, Nat.add_sub_cancel] at hRR
            generalize fac g = F at *
            have hP : i * F ≤ 10 * 362880 := Nat.mul_le_mul (by omega) hFl
            have hmul : abin .mul (.int .i64 (i : Int)) (.int .i64 (F : Int)) = some (.int .i64 ((i * F : Nat) : Int)) := by
              simp only [abin]
              rw [if_neg (by simp), show (i : Int) * (F : Int) = ((i * F : Nat) : Int) by norm_cast, IntWalk.i64_in _ (by omega)]
            generalize i * F = P at *
            simp (disch := omega) [-getElem?_pos, if_pos, if_neg, decide_eq_true, decide_eq_false, hu.1, ↓hmul, e8, e9, IntWalk.i64_in]
            rw [← hg]
            refine (Delete_spec hL4 (k := i) (by omega) (by omega)).mono' fun u H5 w5 ⟨hL5, k5⟩ => ?_
            have hel : (L.eraseIdx i).length = g := by rw [List.length_eraseIdx_of_lt (by omega)]; omega
            simp (disch := omega) [-getElem?_pos, if_pos, if_neg, decide_eq_true, decide_eq_false, e31, e32, e33, IntWalk.i64_in]
            refine ⟨hkn, by simp [e31], by simp [e32], by simp, w5, (k'.trans' hk2).trans k5 (fun b hb hlt => by have := hT b hb; omega), _, L.eraseIdx i, T, o + P, by simp, by simp, hL5, hT, by omega, by omega, ?_⟩
            rw [← hRR, Option.map_map]
            congr 1
            funext z
            simp; omega
          · rw [if_neg hm] at hRR
            simp (disch := omega) [-getElem?_pos, if_pos, if_neg, decide_eq_true, decide_eq_false, hm]
            exact ⟨by rw [← hRR]; rfl, k'⟩
        · obtain rfl : k = Y.length := by omega
          simp (disch := omega) [-getElem?_pos, if_pos, if_neg, decide_eq_true, decide_eq_false, ir_brute_place_l0, e31, e32, e33, e8, e9]
          rw [List.drop_length] at hRR
          exact ⟨o, rfl, by rw [← hRR]; rfl, k'⟩
      · rintro e env2 H' (⟨rfl, o, e8, rfl, k'⟩ | ⟨rfl, rfl, e6, e7, k'⟩) hu
        · simp (disch := omega) [-getElem?_pos, if_pos, if_neg, decide_eq_true, decide_eq_false, e8]
          exact ⟨rfl, k'⟩
        · simp (disch := omega) [-getElem?_pos, if_pos, if_neg, decide_eq_true, decide_eq_false, e6, e7]
          exact ⟨rfl, k'⟩
    · simp (disch := omega) [-getElem?_pos, if_pos, if_neg, decide_eq_true, decide_eq_false, he]
      have : placeO X.length a X = none := by unfold placeO; rw [if_neg (fun h => he h.2)]
      rw [this]
      exact ⟨rfl, k1⟩
  · simp (disch := omega) [-getElem?_pos, if_pos, if_neg, decide_eq_true, decide_eq_false, ir_brute_place, hl]
    have : placeO n a X = none := by unfold placeO; rw [if_neg (fun h => hl h.1)]
    rw [this]
    exact ⟨rfl, .refl⟩
end Go.Proofs.Ytlcddhgfkkjhkaa
