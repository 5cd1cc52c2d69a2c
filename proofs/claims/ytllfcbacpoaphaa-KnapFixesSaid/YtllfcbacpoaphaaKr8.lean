/-
  KnapFixes: what is sure to be in, and what isn't, is the document's.
-/
import Derived.Test.YtllfcbacpoaphaaKr6
import Derived.Test.YtllfcbacpoaphaaKr7
set_option maxRecDepth 100000
set_option linter.unusedSimpArgs false
set_option linter.unusedVariables false
namespace Go.Proofs.Ytllfcbacpoaphaa
open Go Go.Abs
def KfI (H1 : AH) (q : Nat) (a b c d : Value) (room r : Int) (k : Nat) (env : Env) (H' : AH) : Prop :=
  env 1 = some (.int .i64 room) ∧ env 8 = some (.int .i64 r) ∧ env 9 = some a ∧ env 10 = some b ∧ env 11 = some c ∧ env 12 = some d ∧ env 59 = some (.slice (some ⟨q, 0, none⟩) 3 3) ∧ env 60 = some (.int .i64 3) ∧ env 61 = some (.int .i64 k) ∧ WF H' ∧ Keep [] H1 H'
theorem kfx_l0 {H1 : AH} {q : Nat} {a b c d : Value} {M N : List (Int × Int)} {room r : Int} {W : List Int} (hw : WF H1) (hW : W.length = 3) (hWi : ∀ x ∈ W, I64 x) (hq : H1.cells q = some (rI W))
    (hA : SlV (fun z => z < H1.next) H1 a M) (hB : SlV (fun z => z < H1.next) H1 b M) (hC : SlV (fun z => z < H1.next) H1 c N) (hD : SlV (fun z => z < H1.next) H1 d N) (hlM : M.length ≤ 12) (hlN : N.length ≤ 12) {env : Env} (h : KfI H1 q a b c d room r 0 env H1) : wpC Try.prog 131 (.loop ir_law16_KnapFixes_l0) KxQ env H1 := by
  refine loop_upto 3 (KfI H1 q a b c d room r) (Q := KxQ) h ?_
  rintro k env H' hk ⟨e1, e8, e9, e10, e11, e12, e59, e60, e61, w', k'⟩
  have n' := k'.next
  by_cases hkn : k < 3
  · have hcq := cells_kept hw k' hq
    have hk3 : (k : Int) < 3 := by omega
    have hget : (rI W)[k]? = some (.int .i64 (W[k]'(by omega))) := by
      rw [List.getElem?_eq_getElem (by rw [rI_len]; omega)]
      simp [rI]
    have hwo := hWi (W[k]'(by omega)) (List.getElem_mem _)
    generalize W[k]'(by omega) = wo at *
    have hA' := (hA.kept hw k').mono (q := fun z => z < H'.next) fun z hz => by omega
    have hc : ∀ {v : Value} {L : List (Int × Int)} {H2 : AH}, SlV (fun z => z < H1.next) H1 v L → WF H1 → Keep [] H1 H2 → SlV (fun z => z < H2.next) H2 v L := fun h hw hk => (h.kept hw hk).mono fun z hz => by have := hk.next; omega
    simp (disch := omega) [-getElem?_pos, if_pos, if_neg, decide_eq_true, decide_eq_false, ir_law16_KnapFixes_l0, e1, e9, e59, e60, e61, hkn, hk3, hcq, hget]
    refine (Fix_spec (room := room) (worth := wo) (hc hA hw k') (by omega) hwo).mono' fun u H2 w2 ⟨p1, p2, hu, hP1, hP2, k2⟩ => ?_
    subst hu
    have k12 := k'.trans' k2
    have cP1 := hP1.cell
    have cP2 := hP2.cell
    simp (disch := omega) [-getElem?_pos, if_pos, if_neg, decide_eq_true, decide_eq_false, e1, e10, cP1, cP2]
    refine (FixR_spec (room := room) (worth := wo) (hc hB hw k12) (by omega) hwo).mono' fun u H3 w3 ⟨x1, x2, hu, hX1, hX2, k3⟩ => ?_
    subst hu
    have k13 := k12.trans' k3
    have cX1 := hX1.cell
    have cX2 := hX2.cell
    simp (disch := omega) [-getElem?_pos, if_pos, if_neg, decide_eq_true, decide_eq_false, e8, e11, cX1, cX2]
    refine (Fix_spec (room := r) (worth := wo) (hc hC hw k13) (by omega) hwo).mono' fun u H4 w4 ⟨s1, s2, hu, hS1, hS2, k4⟩ => ?_
    subst hu
    have k14 := k13.trans' k4
    have cS1 := hS1.cell
    have cS2 := hS2.cell
    simp (disch := omega) [-getElem?_pos, if_pos, if_neg, decide_eq_true, decide_eq_false, e8, e12, cS1, cS2]
    refine (FixR_spec (room := r) (worth := wo) (hc hD hw k14) (by omega) hwo).mono' fun u H5 w5 ⟨u1, u2, hu, hU1, hU2, k5⟩ => ?_
    subst hu
    have k15 := k14.trans' k5
    have cU1 := hU1.cell
    have cU2 := hU2.cell
    have k35 := k4.trans' k5
    have k25 := k3.trans' k35
    simp (disch := omega) [-getElem?_pos, if_pos, if_neg, decide_eq_true, decide_eq_false, cU1, cU2]
    refine AFn.pure (equalK_spec (hP1.kept w2 k25) (hX1.kept w3 k35)) ?_
    simp (disch := omega) [-getElem?_pos, if_pos, if_neg, decide_eq_true, decide_eq_false, ]
    refine AFn.pure (equalK_spec (hP2.kept w2 k25) (hX2.kept w3 k35)) ?_
    simp (disch := omega) [-getElem?_pos, if_pos, if_neg, decide_eq_true, decide_eq_false, ]
    refine AFn.pure (equalK_spec (hS1.kept w4 k5) hU1) ?_
    simp (disch := omega) [-getElem?_pos, if_pos, if_neg, decide_eq_true, decide_eq_false, ]
    refine AFn.pure (equalK_spec (hS2.kept w4 k5) hU2) ?_
    simp (disch := omega) [-getElem?_pos, if_pos, if_neg, decide_eq_true, decide_eq_false, e61, IntWalk.i64_in]
    first
    | exact ⟨hkn, by simp [e1], by simp [e8], by simp [e9], by simp [e10], by simp [e11], by simp [e12], by simp [e59], by simp [e60], by simp, w5, k15⟩
    | exact ⟨by simp [e1], by simp [e8], by simp [e9], by simp [e10], by simp [e11], by simp [e12], by simp [e59], by simp [e60], by simp, w5, k15⟩
  · obtain rfl : k = 3 := by omega
    simp (disch := omega) [-getElem?_pos, if_pos, if_neg, decide_eq_true, decide_eq_false, ir_law16_KnapFixes_l0, e60, e61]
    exact rfl
theorem KnapFixes_abs {H : AH} {v : Value} {L : List (Int × Int)} {room worth : Int} (hL : SlV (fun b => b < H.next) H v L) (hl : L.length * 16 ≤ 140737488351232) (hwo : I64 worth) : AFn Try.prog F_law16_KnapFixes [v, .int .i64 room, .int .i64 worth] H fun u H' => u = .bool true ∧ H' = H := by
  refine AFn.calm (fun H0 hs => ?_) rfl
  have hn0 : H0.next = H.next := hs.1
  have hL0 := (hL.same hs).mono (q := fun b => b < H0.next) fun b hb => by omega
  clear hL
  refine AFn.enter mixed ir_law16_KnapFixes_eq (by simp [ir_law16_KnapFixes]) fun hw => ?_
  have hcL := hL0.cell
  simp (disch := omega) [-getElem?_pos, if_pos, if_neg, decide_eq_true, decide_eq_false, ir_law16_KnapFixes, hcL]
  refine (tame_spec hL0 hl).mono' fun u H1 w1 ⟨w, hu, hT, k1⟩ => ?_
  subst hu
  have hcT := hT.cell
  have n1 := k1.next
  have hL1 := (hL0.kept hw k1).mono (q := fun b => b < H1.next) fun b hb => by omega
  simp (disch := omega) [-getElem?_pos, if_pos, if_neg, decide_eq_true, decide_eq_false, hcT, hcL]
  refine (show AFn _ _ [_, .int .i64 ((12 : Nat) : Int)] _ _ from items_spec (m := 12) hL1 (by omega)).mono' fun u H2 w2 ⟨a, b, hu, hA, hB, k2⟩ => ?_
  subst hu
  have hcA := hA.cell
  have hcB := hB.cell
  have n2 := k2.next
  have hT2 := (hT.kept w1 k2).mono (q := fun b => b < H2.next) fun b hb => by omega
  simp (disch := omega) [-getElem?_pos, if_pos, if_neg, decide_eq_true, decide_eq_false, hcA, hcB, hcT]
  refine (show AFn _ _ [_, .int .i64 ((12 : Nat) : Int)] _ _ from items_spec (m := 12) hT2 (by omega)).mono' fun u H3 w3 ⟨c, d, hu, hC, hD, k3⟩ => ?_
  subst hu
  have hcC := hC.cell
  have hcD := hD.cell
  have n3 := k3.next
  have hA3 := (hA.kept w2 k3).mono (q := fun b => b < H3.next) fun b hb => by omega
  have hB3 := (hB.kept w2 k3).mono (q := fun b => b < H3.next) fun b hb => by omega
  have hC3 := hC.mono (q := fun b => b < H3.next) fun b hb => hb.2
  have hD3 := hD.mono (q := fun b => b < H3.next) fun b hb => by omega
  have hlM : (L.take 12).length ≤ 12 := by rw [List.length_take]; omega
  have hlN : ((tameI L).take 12).length ≤ 12 := by rw [List.length_take]; omega
  have hok : ItOk ((tameI L).take 12) (magI room) := tame_ok (by omega)
  have hm := mayB_iff.2 hok
  have hbd := rl_bound hok (by omega)
  have hn : rlN ((tameI L).take 12) (magI room) = (relL ((tameI L).take 12) (magI room)).1 := by unfold rlN; rw [hm]; rfl
  have hrl := RelaxR_spec (room := magI room) hD3
  rw [hn] at hrl
  generalize (relL ((tameI L).take 12) (magI room)).1 = best at *
  generalize (rlP ((tameI L).take 12) (magI room)).1 = rp at *
  generalize (rlP ((tameI L).take 12) (magI room)).2 = rq at *
  generalize mayB ((tameI L).take 12) (magI room) = rm at *
  generalize (tameI L).take 12 = N at *
  generalize L.take 12 = M at *
  generalize magI room = r at *
  simp (disch := omega) [-getElem?_pos, if_pos, if_neg, decide_eq_true, decide_eq_false, hcC, hcD]
  refine AFn.pure hrl ?_
  have htd : Int.tdiv best 2 = best / 2 := Int.tdiv_eq_ediv_of_nonneg hbd.1
  have hwd : IntKind.i64.wrap (best / 2) = best / 2 := IntWalk.i64_in _ (by omega)
  simp (disch := omega) [-getElem?_pos, if_pos, if_neg, decide_eq_true, decide_eq_false, htd, hwd]
  obtain ⟨H4, hH4⟩ : ∃ H4, H4 = H3.alloc (.row [.int .i64 worth, .int .i64 best, .int .i64 (best / 2)] T_int64 true) := ⟨_, rfl⟩
  have k34 : Keep [] H3 H4 := by rw [hH4]; exact .alloc
  have w4 : WF H4 := by rw [hH4]; exact w3.alloc
  have n4 : H4.next = H3.next + 1 := by rw [hH4]; rfl
  have c4 : H4.cells H3.next = some (rI [worth, best, best / 2]) := by rw [hH4]; exact AH.cells_alloc_new
  rw [← hH4]
  have up : ∀ {v : Value} {L : List (Int × Int)}, SlV (fun b => b < H3.next) H3 v L → SlV (fun b => b < H4.next) H4 v L := fun h => (h.kept w3 k34).mono fun b hb => by omega
  refine wpC_use (kfx_l0 (H1 := H4) (q := H3.next) (W := [worth, best, best / 2]) (room := room) (r := r) (a := a) (b := b) (c := c) (d := d) w4 rfl (fun x hx => ?_) c4 (up hA3) (up hB3) (up hC3) (up hD3) hlM hlN ⟨by simp, by simp, by simp, by simp, by simp, by simp, by simp, by simp, by simp, w4, .refl⟩) ?_
  · simp at hx
    unfold I64 at hwo ⊢
    rcases hx with rfl | rfl | rfl <;> omega
  · rintro e env2 H5 rfl _
    simp (disch := omega) [-getElem?_pos, if_pos, if_neg, decide_eq_true, decide_eq_false, ]
    refine AFn.pure wakes16_spec ?_
    simp (disch := omega) [-getElem?_pos, if_pos, if_neg, decide_eq_true, decide_eq_false, ]
end Go.Proofs.Ytllfcbacpoaphaa
