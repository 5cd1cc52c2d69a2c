/-
  KnapRelaxes: what relaxed items are worth, the price and the order, is the document's.
-/
import Derived.Test.YtllfcbacpoaphaaKr5
import Derived.Test.YtllfcbacpoaphaaKn12
import Derived.Test.YtllfcbacpoaphaaWak16
set_option maxRecDepth 100000
set_option linter.unusedSimpArgs false
set_option linter.unusedVariables false
namespace Go.Proofs.Ytllfcbacpoaphaa
open Go Go.Abs
def EqIK (H1 : AH) (v w : Value) (n : Nat) (k : Nat) (env : Env) (H' : AH) : Prop :=
  env 0 = some v ∧ env 1 = some w ∧ env 12 = some (.int .i64 n) ∧ env 13 = some (.int .i64 k) ∧ H' = H1
def EqQK (H1 : AH) (e : AExit) (env : Env) (H' : AH) : Prop := e = .exit 0 ∧ H' = H1
theorem equalK_l0 {p q : Nat → Prop} {H1 : AH} {v w : Value} {A : List Int} (hA : SlV p H1 v A) (hB : SlV q H1 w A) {env : Env} (h : EqIK H1 v w A.length 0 env H1) : wpC Try.prog 26 (.loop ir_law16_equal_l0) (EqQK H1) env H1 := by
  refine loop_upto A.length (EqIK H1 v w A.length) (Q := EqQK H1) h ?_
  rintro k env H' hk ⟨e0, e1, e12, e13, rfl⟩
  obtain ⟨n, hn⟩ : ∃ n, n = A.length := ⟨_, rfl⟩
  by_cases hkn : k < A.length
  · obtain ⟨b0, off, sp, cap, cs, hcv, q1, q2⟩ := ints_rd hA (by omega)
    obtain ⟨q3, _⟩ := q2 k hkn
    obtain ⟨b1, off1, sp1, cap1, cs1, hcv1, p1, p2⟩ := ints_rd hB (by omega)
    obtain ⟨p3, _⟩ := p2 k hkn
    subst hcv hcv1
    generalize A[k] = x at *
    have hmx := hA.max
    have hws : IntKind.i64.wrap ((k : Int) + 1) = (k : Int) + 1 := IntWalk.i64_in _ (by omega)
    simp (disch := omega) [-getElem?_pos, if_pos, if_neg, decide_eq_true, decide_eq_false, ir_law16_equal_l0, e0, e1, e12, e13, hkn, q1, q3, p1, p3, hws]
    exact ⟨by simp [e0], by simp [e1], by simp [e12], by simp, rfl⟩
  · obtain rfl : k = A.length := by omega
    simp (disch := omega) [-getElem?_pos, if_pos, if_neg, decide_eq_true, decide_eq_false, ir_law16_equal_l0, e12, e13]
    exact ⟨rfl, rfl⟩
theorem equalK_spec {p q : Nat → Prop} {H : AH} {v w : Value} {A : List Int} (hA : SlV p H v A) (hB : SlV q H w A) : AFn Try.prog F_law16_equal [v, w] H fun u H' => u = .bool true ∧ H' = H := by
  refine AFn.enter mixed ir_law16_equal_eq (by simp [ir_law16_equal]) fun hw => ?_
  obtain ⟨xa, xc, hv⟩ := hA.slice
  obtain ⟨ya, yc, hw2⟩ := hB.slice
  subst hv hw2
  simp (disch := omega) [-getElem?_pos, if_pos, if_neg, decide_eq_true, decide_eq_false, ir_law16_equal]
  refine wpC_use (equalK_l0 hA hB ⟨by simp, by simp, by simp, by simp, rfl⟩) ?_
  rintro e env2 H2 ⟨rfl, rfl⟩ _
  simp (disch := omega) [-getElem?_pos, if_pos, if_neg, decide_eq_true, decide_eq_false, ]
theorem eq_rat (x y : Int) : eqAll [(0, none, .int), (1, none, .int)] [.int .i64 x, .int .i64 y] [.int .i64 x, .int .i64 y] = some true := by
  rw [eqAll_cons1 rfl rfl, eqs_int, eqNext_some, eqAll_cons1 rfl rfl, eqs_int, eqNext_some, eqAll_nil]
  simp
def KxI (H1 : AH) (v m : Value) (room r : Int) (k : Nat) (env : Env) (H' : AH) : Prop :=
  env 0 = some v ∧ env 5 = some m ∧ env 6 = some (.int .i64 r) ∧ env 23 = some (.int .i64 k) ∧ (k ≤ 1 → env 1 = some (.int .i64 room)) ∧ WF H' ∧ Keep [] H1 H'
def KxQ (e : AExit) (env : Env) (H' : AH) : Prop := e = .exit 0
theorem krx_l0 {H1 : AH} {v m : Value} {L T : List (Int × Int)} {room r : Int} (hw : WF H1) (hL : SlV (fun b => b < H1.next) H1 v L) (hT : SlV (fun b => b < H1.next) H1 m T) {env : Env} (h : KxI H1 v m room r 0 env H1) : wpC Try.prog 79 (.loop ir_law16_KnapRelaxes_l0) KxQ env H1 := by
  refine loop_upto 2 (KxI H1 v m room r) (Q := KxQ) h ?_
  rintro k env H' hk ⟨e0, e5, e6, e23, e1, w', k'⟩
  have n' := k'.next
  by_cases hkn : k < 2
  · have hL' := (hL.kept hw k').mono (q := fun b => b < H'.next) fun b hb => by omega
    have hcL := hL.cell
    have hcT := hT.cell
    have e1' := e1 (by omega)
    simp (disch := omega) [-getElem?_pos, if_pos, if_neg, decide_eq_true, decide_eq_false, ir_law16_KnapRelaxes_l0, e0, e23, hkn, hcL]
    refine (show AFn _ _ [_, .int .i64 ((30 : Nat) : Int)] _ _ from items_spec (m := 30) hL' (by omega)).mono' fun u H2 w2 ⟨a, b, hu, hA, hB, k2⟩ => ?_
    subst hu
    have hcA := hA.cell
    have hcB := hB.cell
    have n2 := k2.next
    have hk01 : k = 0 ∨ k = 1 := by omega
    have hk2' := k'.trans' k2
    rcases hk01 with rfl | rfl
    · have hA3 : SlV (fun b => b < H2.next) H2 a (L.take 30) := hA.mono fun b hb => hb.2
      have hB3 : SlV (fun b => b < H2.next) H2 b (L.take 30) := hB.mono fun b hb => by omega
      have hl30 : (L.take 30).length ≤ 30 := by rw [List.length_take]; omega
      generalize L.take 30 = M at *
      simp (disch := omega) [-getElem?_pos, if_pos, if_neg, decide_eq_true, decide_eq_false, e0, e1', e5, e6, e23, hcA, hcB]
      refine (Relax_spec (room := room) hA3 (by omega)).mono' fun u H3 w3 ⟨hu, k3⟩ => ?_
      subst hu
      unfold rlV
      have hrr := fun H (h : SlV (fun b => b < AH.next H) H b M) => RelaxR_spec (room := room) h
      generalize rlN M room = rn at *
      generalize (rlP M room).1 = rp at *
      generalize (rlP M room).2 = rq at *
      generalize mayB M room = rm at *
      have n3 := k3.next
      obtain ⟨H4, hH4⟩ : ∃ H4, H4 = H3.alloc (.row [.int .i64 rp, .int .i64 rq] T_ratio_Ratio true) := ⟨_, rfl⟩
      have k34 : Keep [] H3 H4 := by rw [hH4]; exact .alloc
      have w4 : WF H4 := by rw [hH4]; exact w3.alloc
      have n4 : H4.next = H3.next + 1 := by rw [hH4]; rfl
      have k24 := k3.trans' k34
      have c11 : H4.cells H3.next = some [.int .i64 rp, .int .i64 rq] := by rw [hH4]; exact AH.cells_alloc_new
      have hA4 := (hA3.kept w2 k24).mono (q := fun b => b < H4.next) fun b hb => by omega
      have hB4 := (hB3.kept w2 k24).mono (q := fun b => b < H4.next) fun b hb => by omega
      simp (disch := omega) [-getElem?_pos, if_pos, if_neg, decide_eq_true, decide_eq_false, writeA, over, cut2i, e1']
      rw [← hH4]
      refine AFn.pure (hrr _ hB4) ?_
      simp (disch := omega) [-getElem?_pos, if_pos, if_neg, decide_eq_true, decide_eq_false, c11, cut2i, eq_rat]
      refine (Order_spec hA4 (by omega)).mono' fun u H5 w5 ⟨hO1, k5⟩ => ?_
      have n5 := k5.next
      have hB5 := (hB4.kept w4 k5).mono (q := fun b => b < H5.next) fun b hb => by omega
      simp (disch := omega) [-getElem?_pos, if_pos, if_neg, decide_eq_true, decide_eq_false, ]
      refine (OrderR_spec hB5).mono' fun u2 H6 w6 ⟨hO2, k6⟩ => ?_
      simp (disch := omega) [-getElem?_pos, if_pos, if_neg, decide_eq_true, decide_eq_false, ]
      refine AFn.pure (equalK_spec (hO1.kept w5 k6) hO2) ?_
      simp (disch := omega) [-getElem?_pos, if_pos, if_neg, decide_eq_true, decide_eq_false, e23, IntWalk.i64_in]
      exact ⟨by simp [e0], by simp [e5], by simp [e6], by simp, fun _ => by simp [e1'], w6, hk2'.trans' (k24.trans' (k5.trans' k6))⟩
    · have hT2 := (hT.kept hw hk2').mono (q := fun b => b < H2.next) fun b hb => by omega
      simp (disch := omega) [-getElem?_pos, if_pos, if_neg, decide_eq_true, decide_eq_false, e0, e1', e5, e6, e23, hcA, hcB, hcT]
      refine (show AFn _ _ [_, .int .i64 ((30 : Nat) : Int)] _ _ from items_spec (m := 30) hT2 (by omega)).mono' fun u H2b w2b ⟨a, b, hu, hA, hB, k2b⟩ => ?_
      subst hu
      have hcA := hA.cell
      have hcB := hB.cell
      have n2b := k2b.next
      have hA3 : SlV (fun b => b < H2b.next) H2b a (T.take 30) := hA.mono fun b hb => hb.2
      have hB3 : SlV (fun b => b < H2b.next) H2b b (T.take 30) := hB.mono fun b hb => by omega
      have hl30 : (T.take 30).length ≤ 30 := by rw [List.length_take]; omega
      generalize T.take 30 = M at *
      simp (disch := omega) [-getElem?_pos, if_pos, if_neg, decide_eq_true, decide_eq_false, hcA, hcB]
      refine (Relax_spec (room := r) hA3 (by omega)).mono' fun u H3 w3 ⟨hu, k3⟩ => ?_
      subst hu
      unfold rlV
      have hrr := fun H (h : SlV (fun b => b < AH.next H) H b M) => RelaxR_spec (room := r) h
      generalize rlN M r = rn at *
      generalize (rlP M r).1 = rp at *
      generalize (rlP M r).2 = rq at *
      generalize mayB M r = rm at *
      have n3 := k3.next
      obtain ⟨H4, hH4⟩ : ∃ H4, H4 = H3.alloc (.row [.int .i64 rp, .int .i64 rq] T_ratio_Ratio true) := ⟨_, rfl⟩
      have k34 : Keep [] H3 H4 := by rw [hH4]; exact .alloc
      have w4 : WF H4 := by rw [hH4]; exact w3.alloc
      have n4 : H4.next = H3.next + 1 := by rw [hH4]; rfl
      have k24 := k3.trans' k34
      have c11 : H4.cells H3.next = some [.int .i64 rp, .int .i64 rq] := by rw [hH4]; exact AH.cells_alloc_new
      have hA4 := (hA3.kept w2b k24).mono (q := fun b => b < H4.next) fun b hb => by omega
      have hB4 := (hB3.kept w2b k24).mono (q := fun b => b < H4.next) fun b hb => by omega
      simp (disch := omega) [-getElem?_pos, if_pos, if_neg, decide_eq_true, decide_eq_false, writeA, over, cut2i, e1']
      rw [← hH4]
      refine AFn.pure (hrr _ hB4) ?_
      simp (disch := omega) [-getElem?_pos, if_pos, if_neg, decide_eq_true, decide_eq_false, c11, cut2i, eq_rat]
      refine (Order_spec hA4 (by omega)).mono' fun u H5 w5 ⟨hO1, k5⟩ => ?_
      have n5 := k5.next
      have hB5 := (hB4.kept w4 k5).mono (q := fun b => b < H5.next) fun b hb => by omega
      simp (disch := omega) [-getElem?_pos, if_pos, if_neg, decide_eq_true, decide_eq_false, ]
      refine (OrderR_spec hB5).mono' fun u2 H6 w6 ⟨hO2, k6⟩ => ?_
      simp (disch := omega) [-getElem?_pos, if_pos, if_neg, decide_eq_true, decide_eq_false, ]
      refine AFn.pure (equalK_spec (hO1.kept w5 k6) hO2) ?_
      simp (disch := omega) [-getElem?_pos, if_pos, if_neg, decide_eq_true, decide_eq_false, e23, IntWalk.i64_in]
      exact ⟨by simp [e0], by simp [e5], by simp [e6], by simp, fun h => by omega, w6, hk2'.trans' (k2b.trans' (k24.trans' (k5.trans' k6)))⟩
  · obtain rfl : k = 2 := by omega
    simp (disch := omega) [-getElem?_pos, if_pos, if_neg, decide_eq_true, decide_eq_false, ir_law16_KnapRelaxes_l0, e23]
    exact rfl
theorem KnapRelaxes_abs {H : AH} {v : Value} {L : List (Int × Int)} {room : Int} (hL : SlV (fun b => b < H.next) H v L) (hl : L.length * 16 ≤ 140737488351232) : AFn Try.prog F_law16_KnapRelaxes [v, .int .i64 room] H fun u H' => u = .bool true ∧ H' = H := by
  refine AFn.calm (fun H0 hs => ?_) rfl
  have hn0 : H0.next = H.next := hs.1
  have hL0 := (hL.same hs).mono (q := fun b => b < H0.next) fun b hb => by omega
  clear hL
  refine AFn.enter mixed ir_law16_KnapRelaxes_eq (by simp [ir_law16_KnapRelaxes]) fun hw => ?_
  have hcL := hL0.cell
  simp (disch := omega) [-getElem?_pos, if_pos, if_neg, decide_eq_true, decide_eq_false, ir_law16_KnapRelaxes, hcL]
  refine (tame_spec hL0 hl).mono' fun u H1 w1 ⟨w, hu, hT, k1⟩ => ?_
  subst hu
  have hcT := hT.cell
  have n1 := k1.next
  simp (disch := omega) [-getElem?_pos, if_pos, if_neg, decide_eq_true, decide_eq_false, hcT]
  refine wpC_use (krx_l0 (H1 := H1) (v := v) (m := w) (room := room) (r := magI room) w1 ((hL0.kept hw k1).mono fun b hb => by omega) (hT.mono fun b hb => hb.2) ⟨by simp, by simp, by simp, by simp, fun _ => by simp, w1, .refl⟩) ?_
  rintro e env2 H2 rfl _
  simp (disch := omega) [-getElem?_pos, if_pos, if_neg, decide_eq_true, decide_eq_false, ]
  refine AFn.pure wakes16_spec ?_
  simp (disch := omega) [-getElem?_pos, if_pos, if_neg, decide_eq_true, decide_eq_false, ]
end Go.Proofs.Ytllfcbacpoaphaa
