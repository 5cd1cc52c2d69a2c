/-
  package brute: the order of a place.
-/
import Derived.Test.YtlcddhgfkkjhkaaBrute4
set_option maxRecDepth 100000
set_option linter.unusedSimpArgs false
set_option linter.unusedVariables false
namespace Go.Proofs.Ytlcddhgfkkjhkaa
open Go Go.Abs

theorem prod_fac : ∀ {N : Nat}, N < 10 → prodI (fun k => (k : Int) + 1) N = (fac N : Int) := by
  have h : ∀ N : Fin 10, prodI (fun k => (k : Int) + 1) N.1 = (fac N.1 : Int) := by decide
  exact fun {N} hN => h ⟨N, hN⟩
theorem i64_quo_nat {a b : Nat} (ha : a < 4611686018427387904) (hb : 0 < b) : abin .quo (.int .i64 a) (.int .i64 b) = some (.int .i64 ((a / b : Nat) : Int)) := by
  simp only [abin]
  rw [if_neg (by simp), if_neg (by omega), IntWalk.i64_quo _ _ (by omega)]
  norm_cast
theorem i64_rem_nat {a b : Nat} (hb : 0 < b) : abin .rem (.int .i64 a) (.int .i64 b) = some (.int .i64 ((a % b : Nat) : Int)) := by
  simp only [abin]
  rw [if_neg (by simp), if_neg (by omega), Int.tmod_eq_emod_of_nonneg (by omega)]
  norm_cast

/-- So many orders begin alike. -/
theorem part_spec {H1 H2 : AH} {u : Value} {n : Nat} {z : Int} (hz : z = n) (hn : n < 10) (hu : u = .func (.func F_brute_upTo_1) #[] #[.pointer (some ⟨H1.next, 0, none⟩)] ∧ H2 = H1.alloc (.row [.int .i64 z] T_int true)) :
    AFn Try.prog F_brute_times [u] H2 fun u H' => u = .int .i64 (fac n) ∧ Keep [] H1 H' := by
  obtain ⟨rfl, rfl⟩ := hu
  subst hz
  refine (times_spec good_brute_upTo_1 (upTo_walk (N := n) (by omega)) AH.cells_alloc_new).mono' fun u H4 w4 ⟨hu, hk⟩ => ?_
  rw [prod_fac hn] at hu
  exact ⟨hu, .trans' .alloc hk⟩

def OrI (H : AH) (f : Nat) (R : List Int) (k : Nat) (env : Env) (H' : AH) : Prop :=
  ∃ v w O L S T, ∃ pl : Nat, env 7 = some v ∧ env 8 = some w ∧ env 2 = some (.int .i64 pl) ∧ WF H' ∧ Keep [] H H' ∧ OwnL (fun _ => False) H' T_int v O S ∧ OwnL (fun _ => False) H' T_int w L T ∧ (∀ b ∈ S, H.next ≤ b) ∧ (∀ b ∈ T, H.next ≤ b) ∧ (∀ b ∈ S, b ∉ T) ∧
    O ++ orderL (f - k) L pl = R ∧ L.length = f - k ∧ pl < fac (f - k) ∧ O.length ≤ 100 + k
theorem order_spec {H : AH} {n a pl : Nat} (hn : n ≤ 100) (hf : n - a < 10) (ha : a ≤ n) (hpl : pl < fac (n - a)) : AFn Try.prog F_brute_order [.int .i64 n, .int .i64 a, .int .i64 pl] H fun u H' => NewL H u (restL 0 a ++ orderL (n - a) (restL a n) pl) H' := by
  refine AFn.enter mixed ir_brute_order_eq (by simp [ir_brute_order]) fun hw => ?_
  simp (disch := omega) [-getElem?_pos, if_pos, if_neg, decide_eq_true, decide_eq_false, ir_brute_order]
  refine (rest_spec (a := 0) (n := a) (by omega)).mono' fun v H1 w1 ⟨S, hA, k1, hS⟩ => ?_
  obtain ⟨va, vc, rfl⟩ := hA.slice
  simp (disch := omega) [-getElem?_pos, if_pos, if_neg, decide_eq_true, decide_eq_false, ]
  refine (rest_spec (a := a) (n := n) (by omega)).mono' fun w H2 w2 ⟨T, hB, k2, hT⟩ => ?_
  obtain ⟨wa, wc, rfl⟩ := hB.slice
  have hn1 := k1.next
  have hST : ∀ b ∈ S, b ∉ T := fun b hb h => by have := hA.lt w1 b hb; have := hT b h; omega
  simp (disch := omega) [-getElem?_pos, if_pos, if_neg, decide_eq_true, decide_eq_false, ]
  refine wpC_use (loop_upto (n - a) (OrI H (n - a) (restL 0 a ++ orderL (n - a) (restL a n) pl)) (Q := fun e env H' => e = .exit 0 ∧ ∃ v, env 7 = some v ∧ NewL H v (restL 0 a ++ orderL (n - a) (restL a n) pl) H') ⟨_, _, restL 0 a, restL a n, S, T, pl, by simp, by simp, by simp, w2, k1.trans' k2, hA.kept w1 k2, hB, hS, fun b hb => by have := hT b hb; omega, hST, rfl, restL_len, hpl, by rw [restL_len]; omega⟩ ?_) ?_
  · generalize hR : restL 0 a ++ orderL (n - a) (restL a n) pl = R
    generalize n - a = f at *
    rintro k env H' hk ⟨v, w, O, L, S, T, pl, e7, e8, e2, w', k', hO, hL, hS, hT, hST, hRR, hl, hp, hOl⟩
    obtain ⟨wa, wc, rfl⟩ := hL.slice
    obtain ⟨va, vc, rfl⟩ := hO.slice
    by_cases hkf : k < f
    · obtain ⟨g, hg⟩ : ∃ g, f - k = g + 1 := ⟨f - k - 1, by omega⟩
      rw [hg] at hRR hl hp
      obtain ⟨x, L1, rfl⟩ : ∃ x L1, L = x :: L1 := by cases L with | nil => simp at hl | cons x L1 => exact ⟨x, L1, rfl⟩
      have hl1 : L1.length = g := by simpa using hl
      have hor : orderL (g + 1) (x :: L1) pl = (x :: L1).getD (pl / fac g) 0 :: orderL g ((x :: L1).eraseIdx (pl / fac g)) (pl % fac g) := by rw [← hl1]; rfl
      have hfp := fac_pos g
      have hq : pl / fac g < (x :: L1).length := by
        rw [hl, Nat.div_lt_iff_lt_mul hfp]; exact hp
      have hgg : (x :: L1).getD (pl / fac g) 0 = (x :: L1)[pl / fac g] := by
        rw [List.getD_eq_getElem?_getD, List.getElem?_eq_getElem hq]; rfl
      have hpb : pl < 4611686018427387904 := by
        have h9 : ∀ N : Fin 10, fac (N.1 + 1) ≤ 4611686018427387904 := by decide
        have := h9 ⟨g, by omega⟩
        simp at this; omega
      have qq := i64_quo_nat (a := pl) (b := fac g) hpb hfp
      have qr := i64_rem_nat (a := pl) (b := fac g) hfp
      have hmod := Nat.mod_lt pl hfp
      have hfac : fac (g + 1) = (g + 1) * fac g := rfl
      have hg10 : g < 10 := by omega
      simp (disch := omega) [-getElem?_pos, if_pos, if_neg, decide_eq_true, decide_eq_false, ir_brute_order_l0, e7, e8, e2, List.length_cons, hl1, IntWalk.i64_in]
      refine (upTo_spec _).mono' fun u H1 w1 hu => ?_
      simp (disch := omega) [-getElem?_pos, if_pos, if_neg, decide_eq_true, decide_eq_false, ]
      refine (part_spec (n := g) rfl hg10 hu).mono' fun u2 H2 w2 ⟨hu2, hk2⟩ => ?_
      subst hu2
      have hO2 := hO.kept w' hk2
      have hL2 := hL.kept w' hk2
      obtain ⟨b, off, sp, cap, cs, ev, q1, q2⟩ := ints_rd (hL2.slv (q := fun _ => True) (fun _ _ => trivial) (fun _ _ => trivial) (by omega)) (by simp)
      obtain ⟨q3, q4⟩ := q2 _ hq
      cases ev
      obtain ⟨va', vc', H3, S', p1, w3, hO3, k3, hS', kk3, i3⟩ := push_int w2 hO2 (k'.trans' hk2) hS (a := (x :: L1)[pl / fac g]) q4 (by omega)
      have pE : elemsA (H2.alloc (.row [.int .i64 (x :: L1)[pl / fac g]] T_int true)) 1 (.slice (some ⟨H2.next, 0, none⟩) 1 1) = some [.int .i64 (x :: L1)[pl / fac g]] := elems_one rfl
      rw [hgg] at hor
      rw [hor] at hRR
      generalize (x :: L1)[pl / fac g] = y at *
      generalize hF : fac g = F at *
      have hpF : pl / F < g + 1 := by simpa [hl1] using hq
      generalize hq1 : pl / F = qt at *
      simp (disch := omega) [-getElem?_pos, if_pos, if_neg, decide_eq_true, decide_eq_false, hu.1, e7, e8, e2, List.length_cons, hl1, ↓qq, ↓qr, q1, q3, pE, p1, hpF, IntWalk.i64_in]
      have hLn := hL2.lt w2
      have hL3 := hL2.keep w2 kk3 (fun _ _ h => h.elim) (fun b hb h => hST b h hb)
      have hST3 : ∀ b ∈ S', b ∉ T := fun b hb h => by
        rcases i3 b hb with h' | h'
        · exact hST b h' h
        · have := hLn b h; omega
      rw [List.length_cons, hl1] at hL3
      refine (Delete_spec hL3 (k := qt) (by simp [hl1]; omega) (by simp; omega)).mono' fun u H4 w4 ⟨hL4, k4⟩ => ?_
      have hO4 := hO3.keep w3 k4 (fun _ _ h => h.elim) (fun b hb => hST3 b hb)
      have hlen4 : ((x :: L1).eraseIdx qt).length = g := by rw [List.length_eraseIdx_of_lt (by simp [hl1]; omega)]; simp [hl1]
      simp (disch := omega) [-getElem?_pos, if_pos, if_neg, decide_eq_true, decide_eq_false, ]
      refine ⟨hkf, _, _, O ++ [y], (x :: L1).eraseIdx qt, S', T, pl % F, by simp, by simp, by simp, w4, ?_, hO4, hL4, hS', hT, hST3, ?_, ?_, ?_, by simp; omega⟩
      · exact k3.trans k4 fun b hb hlt => by have := hT b hb; omega
      · rw [List.append_assoc, show f - (k + 1) = g by omega]; exact hRR
      · rw [hlen4]; omega
      · rw [show f - (k + 1) = g by omega, hF]; exact hmod
    · obtain rfl : k = f := by omega
      simp (disch := omega) [-getElem?_pos, if_pos, if_neg, decide_eq_true, decide_eq_false, ir_brute_order_l0, e7, e8, e2, hl]
      rw [Nat.sub_self] at hRR
      rw [← hRR]
      show NewL H _ (O ++ []) H'
      rw [List.append_nil]
      exact ⟨S, hO, k', hS⟩
  · rintro e env2 H' ⟨rfl, v, e7, hN⟩ hu
    obtain ⟨S, hA, _⟩ := id hN
    simp (disch := omega) [-getElem?_pos, if_pos, if_neg, decide_eq_true, decide_eq_false, e7, hA.cell]
    exact hN
end Go.Proofs.Ytlcddhgfkkjhkaa
