/-
  BitsetJoins: the walk.
-/
import Derived.Test.YtakdkbdjjlmccaaDoorLaw03b
set_option maxRecDepth 100000
set_option linter.unusedSimpArgs false
set_option linter.unusedVariables false
namespace Go.Proofs.YtakdkbdjjlmccaaDoor
open Go Go.Abs
theorem eachOp_or : eachOp 0 = fun a b => a || b := by funext a b; simp [eachOp]
theorem eachOp_and : eachOp 1 = fun a b => a && b := by funext a b; simp [eachOp]
theorem eachOp_less : eachOp 2 = fun a b => a && !b := by funext a b; simp [eachOp]
theorem count_zero {B : List Bool} : B.count true = 0 ↔ ∀ i, B.getD i false = false := by
  constructor
  · intro h i
    cases hb : B.getD i false with
    | false => rfl
    | true =>
      have hi := getD_len hb
      rw [List.getD_eq_getElem?_getD, List.getElem?_eq_getElem hi] at hb
      have : true ∈ B := by rw [← show B[i] = true from hb]; exact List.getElem_mem hi
      have := List.count_pos_iff.2 this
      omega
  · intro h
    rw [List.count_eq_zero]
    intro hc
    obtain ⟨i, hi, he⟩ := List.getElem_of_mem hc
    have := h i
    rw [List.getD_eq_getElem?_getD, List.getElem?_eq_getElem hi] at this
    simp [he] at this
theorem less_zero {A B : List Bool} : (eachB (fun a b => a && !b) A B).count true = 0 ↔ ∀ i, A.getD i false = true → B.getD i false = true := by
  rw [count_zero]
  constructor
  · intro h i hA
    have := h i
    rw [eachB_get, if_pos (getD_len hA), hA] at this
    simpa using this
  · intro h i
    rw [eachB_get]
    split
    · cases hA : A.getD i false with
      | false => rfl
      | true => rw [h i hA]; rfl
    · rfl
theorem eq_iff {A B : List Bool} : A = B ↔ A.length = B.length ∧ (eachB (fun a b => a && !b) A B).count true = 0 ∧ (eachB (fun a b => a && !b) B A).count true = 0 := by
  constructor
  · rintro rfl
    exact ⟨rfl, less_zero.2 fun _ h => h, less_zero.2 fun _ h => h⟩
  · rintro ⟨hl, h1, h2⟩
    rw [less_zero] at h1 h2
    apply List.ext_getElem hl
    intro i p q
    have a1 := h1 i
    have a2 := h2 i
    simp only [List.getD_eq_getElem?_getD, List.getElem?_eq_getElem p, List.getElem?_eq_getElem q, Option.getD_some] at a1 a2
    cases hA : A[i] <;> cases hB : B[i] <;> simp_all
def JoinsPost (H : AH) (u : Value) (H' : AH) : Prop := u = .bool true ∧ Keep [] H H'
theorem Joins_spec {H : AH} (hg : GroundA G H) {s1 s2 : Int} {lv mv : Value} {m n : Nat} {l l2 : List Int} (hs1 : -9223372036854775808 ≤ s1 ∧ s1 ≤ 9223372036854775807) (hs2 : -9223372036854775808 ≤ s2 ∧ s2 ≤ 9223372036854775807)
    (hl : Rd H 1 lv m (l.map (.int .i64))) (hm : m ≤ 9223372036854775807) (hl2 : Rd H 1 mv n (l2.map (.int .i64))) (hn : n ≤ 9223372036854775807) :
    AFn Tryd.prog F_law03_BitsetJoins [.agg #[.int .i64 s1, .int .i64 s2], lv, mv] H (JoinsPost H) := by
  refine AFn.enter mixed ir_law03_BitsetJoins_eq (by simp [ir_law03_BitsetJoins]) fun hw => ?_
  simp (disch := omega) [-getElem?_pos, if_pos, if_neg, decide_eq_true, decide_eq_false, ir_law03_BitsetJoins]
  generalize hH1 : H.alloc (.row [.int .i64 s1, .int .i64 s2] T_2_int true) = H1
  have hk1 : Keep [] H H1 := by rw [← hH1]; exact .alloc
  have hw1 : WF H1 := by rw [← hH1]; exact hw.alloc
  have hc1 : H1.cells H.next = some [.int .i64 s1, .int .i64 s2] := by rw [← hH1]; simp
  have hn1 : H1.next = H.next + 1 := by rw [← hH1]; simp
  refine (made_spec hs1 (hl.kept hw hk1) hm).mono' fun u H2 w2 ⟨sa, ta, A, hu, hAl, hA, hTA, k2⟩ => ?_
  subst hu
  obtain ⟨sla, rfl, _, hA4⟩ := id hA
  simp (disch := omega) [-getElem?_pos, if_pos, if_neg, decide_eq_true, decide_eq_false, writeA]
  generalize hH3 : H2.alloc (.row [.int .i64 A.length, sla] T_bitset_Set true) = H3
  have k3 : Keep [] H2 H3 := by rw [← hH3]; exact .alloc
  have w3 : WF H3 := by rw [← hH3]; exact w2.alloc
  have c7 : H3.cells H2.next = some [.int .i64 A.length, sla] := by rw [← hH3]; simp
  have hc3 := cells_kept w2 k3 (cells_kept hw1 k2 hc1)
  have k03 := hk1.trans' (k2.trans' k3)
  have hc2 := cells_kept hw1 k2 hc1
  have hk2n := k2.next
  simp (disch := omega) [-getElem?_pos, if_pos, if_neg, decide_eq_true, decide_eq_false, hc2]
  refine (made_spec hs2 (hl2.kept hw k03) hn).mono' fun u H4 w4 ⟨sb, tb, B, hu, hBl, hB, hTB, k4⟩ => ?_
  subst hu
  obtain ⟨slb, rfl, _, hB4⟩ := id hB
  simp (disch := omega) [-getElem?_pos, if_pos, if_neg, decide_eq_true, decide_eq_false, writeA]
  generalize hHb : H4.alloc (.row [.int .i64 B.length, slb] T_bitset_Set true) = Hb
  have kb : Keep [] H4 Hb := by rw [← hHb]; exact .alloc
  have wb : WF Hb := by rw [← hHb]; exact w4.alloc
  have c9 : Hb.cells H4.next = some [.int .i64 B.length, slb] := by rw [← hHb]; simp
  have c74 := cells_kept w3 k4 c7
  have hne : H2.next < H4.next := by have := k4.next; rw [← hH3] at this; simp at this; omega
  have c7 := cells_kept w4 kb c74
  have hA := ((hA.kept w2 k3).kept w3 k4).kept w4 kb
  have hTA := ((hTA.kept w2 k3).kept w3 k4).kept w4 kb
  have hB := hB.kept w4 kb
  have hTB := hTB.kept w4 kb
  have k0 := k03.trans' (k4.trans' kb)
  have hgb := hg.kept hw k0
  clear hc1 hc3 hHb hH3 hH1 k2 k3 k4 kb k03 hk1
  generalize H2.next = p7 at *
  generalize H4.next = p9 at *
  have hA := hA.mono (q := fun _ => True) fun _ _ => trivial
  have hB := hB.mono (q := fun _ => True) fun _ _ => trivial
  obtain ⟨aa, ca, rfl⟩ := hTA.1.slice
  obtain ⟨ab, cb, rfl⟩ := hTB.1.slice
  simp (disch := omega) [-getElem?_pos, if_pos, if_neg, decide_eq_true, decide_eq_false, c74, c7, c9, cut]
  refine (Or_spec hA hB).mono' fun u5 H5 w5 ⟨r5, k5⟩ => ?_
  have kk5 := k5
  simp (disch := omega) [-getElem?_pos, if_pos, if_neg, decide_eq_true, decide_eq_false, ]
  refine (RefEach_spec (hTA.kept wb kk5) (hTB.kept wb kk5) 0 (by omega)).mono' fun u6 H6 w6 ⟨r6, k6⟩ => ?_
  have kk6 := kk5.trans' k6
  rw [eachOp_or] at r6
  simp (disch := omega) [-getElem?_pos, if_pos, if_neg, decide_eq_true, decide_eq_false, ]
  refine AFn.pure (same_spec (hgb.kept wb kk6) (r5.kept w5 k6) r6) ?_
  simp (disch := omega) [-getElem?_pos, if_pos, if_neg, decide_eq_true, decide_eq_false, cells_kept wb kk6 c7, cells_kept wb kk6 c9, cut]
  refine (And_spec (hA.kept wb kk6) (hB.kept wb kk6)).mono' fun u7 H7 w7 ⟨r7, k7⟩ => ?_
  have kk7 := kk6.trans' k7
  simp (disch := omega) [-getElem?_pos, if_pos, if_neg, decide_eq_true, decide_eq_false, ]
  refine (RefEach_spec (hTA.kept wb kk7) (hTB.kept wb kk7) 1 (by omega)).mono' fun u8 H8 w8 ⟨r8, k8⟩ => ?_
  have kk8 := kk7.trans' k8
  rw [eachOp_and] at r8
  simp (disch := omega) [-getElem?_pos, if_pos, if_neg, decide_eq_true, decide_eq_false, ]
  refine AFn.pure (same_spec (hgb.kept wb kk8) (r7.kept w7 k8) r8) ?_
  simp (disch := omega) [-getElem?_pos, if_pos, if_neg, decide_eq_true, decide_eq_false, cells_kept wb kk8 c7, cells_kept wb kk8 c9, cut]
  refine (Less_spec (hA.kept wb kk8) (hB.kept wb kk8)).mono' fun u9 H9 w9 ⟨r9, k9⟩ => ?_
  have kk9 := kk8.trans' k9
  simp (disch := omega) [-getElem?_pos, if_pos, if_neg, decide_eq_true, decide_eq_false, ]
  refine (RefEach_spec (hTA.kept wb kk9) (hTB.kept wb kk9) 2 (by omega)).mono' fun u10 H10 w10 ⟨r10, k10⟩ => ?_
  have kk10 := kk9.trans' k10
  rw [eachOp_less] at r10
  simp (disch := omega) [-getElem?_pos, if_pos, if_neg, decide_eq_true, decide_eq_false, ]
  refine AFn.pure (same_spec (hgb.kept wb kk10) (r9.kept w9 k10) r10) ?_
  simp (disch := omega) [-getElem?_pos, if_pos, if_neg, decide_eq_true, decide_eq_false, cells_kept wb kk10 c7, cells_kept wb kk10 c9, cut]
  refine (RefEach_spec (hTA.kept wb kk10) (hTB.kept wb kk10) 2 (by omega)).mono' fun u11 H11 w11 ⟨r11, k11⟩ => ?_
  have kk11 := kk10.trans' k11
  rw [eachOp_less] at r11
  simp (disch := omega) [-getElem?_pos, if_pos, if_neg, decide_eq_true, decide_eq_false, ]
  refine (RefList_spec r11).mono' fun u12 H12 w12 ⟨S12, o12, k12, _⟩ => ?_
  have kk12 := kk11.trans' k12
  obtain ⟨a12, c12, rfl⟩ := o12.slice
  rw [idxs_count] at o12 ⊢
  generalize hE : (eachB (fun a b => a && !b) A B).count true = cE at *
  by_cases hlen : A.length = B.length
  · by_cases hE0 : cE = 0
    · simp (disch := omega) [-getElem?_pos, if_pos, if_neg, decide_eq_true, decide_eq_false, hE0]
      refine (RefEach_spec (hTB.kept wb kk12) (hTA.kept wb kk12) 2 (by omega)).mono' fun u13 H13 w13 ⟨r13, k13⟩ => ?_
      have kk13 := kk12.trans' k13
      rw [eachOp_less] at r13
      simp (disch := omega) [-getElem?_pos, if_pos, if_neg, decide_eq_true, decide_eq_false, ]
      refine (RefList_spec r13).mono' fun u14 H14 w14 ⟨S14, o14, k14, _⟩ => ?_
      have kk14 := kk13.trans' k14
      obtain ⟨a14, c14, rfl⟩ := o14.slice
      rw [idxs_count] at o14 ⊢
      have hEq : (A = B) ↔ (eachB (fun a b => a && !b) B A).count true = 0 := by rw [eq_iff]; simp [hlen, hE, hE0]
      generalize (eachB (fun a b => a && !b) B A).count true = cF at *
      simp (disch := omega) [-getElem?_pos, if_pos, if_neg, decide_eq_true, decide_eq_false, ]
      refine AFn.pure (wakes_spec (hgb.kept wb kk14)) ?_
      simp (disch := omega) [-getElem?_pos, if_pos, if_neg, decide_eq_true, decide_eq_false, cells_kept wb kk14 c7, cells_kept wb kk14 c9, cut]
      refine AFn.pure (Within_spec (hA.kept wb kk14) (hB.kept wb kk14)) ?_
      rw [hE]
      simp (disch := omega) [-getElem?_pos, if_pos, if_neg, decide_eq_true, decide_eq_false, cells_kept wb kk14 c7, cells_kept wb kk14 c9, cut, hE0]
      refine AFn.pure (Equal_spec (hA.kept wb kk14) (hB.kept wb kk14)) ?_
      simp (disch := omega) [-getElem?_pos, if_pos, if_neg, decide_eq_true, decide_eq_false, cells_kept wb kk14 c7, cells_kept wb kk14 c9, cut, hEq]
      refine AFn.pure (same_spec (hgb.kept wb kk14) (hA.kept wb kk14) (hTA.kept wb kk14)) ?_
      simp (disch := omega) [-getElem?_pos, if_pos, if_neg, decide_eq_true, decide_eq_false, cells_kept wb kk14 c7, cells_kept wb kk14 c9, cut]
      refine AFn.pure (same_spec (hgb.kept wb kk14) (hB.kept wb kk14) (hTB.kept wb kk14)) ?_
      simp (disch := omega) [-getElem?_pos, if_pos, if_neg, decide_eq_true, decide_eq_false, ]
      exact ⟨rfl, k0.trans' kk14⟩
    · have hEq : A ≠ B := fun hc => hE0 (by rw [← hE]; exact (eq_iff.1 hc).2.1)
      simp (disch := omega) [-getElem?_pos, if_pos, if_neg, decide_eq_true, decide_eq_false, hE0]
      refine AFn.pure (wakes_spec (hgb.kept wb kk12)) ?_
      simp (disch := omega) [-getElem?_pos, if_pos, if_neg, decide_eq_true, decide_eq_false, cells_kept wb kk12 c7, cells_kept wb kk12 c9, cut]
      refine AFn.pure (Within_spec (hA.kept wb kk12) (hB.kept wb kk12)) ?_
      rw [hE]
      simp (disch := omega) [-getElem?_pos, if_pos, if_neg, decide_eq_true, decide_eq_false, cells_kept wb kk12 c7, cells_kept wb kk12 c9, cut, hE0]
      refine AFn.pure (Equal_spec (hA.kept wb kk12) (hB.kept wb kk12)) ?_
      simp (disch := omega) [-getElem?_pos, if_pos, if_neg, decide_eq_true, decide_eq_false, cells_kept wb kk12 c7, cells_kept wb kk12 c9, cut, hEq]
      refine AFn.pure (same_spec (hgb.kept wb kk12) (hA.kept wb kk12) (hTA.kept wb kk12)) ?_
      simp (disch := omega) [-getElem?_pos, if_pos, if_neg, decide_eq_true, decide_eq_false, cells_kept wb kk12 c7, cells_kept wb kk12 c9, cut]
      refine AFn.pure (same_spec (hgb.kept wb kk12) (hB.kept wb kk12) (hTB.kept wb kk12)) ?_
      simp (disch := omega) [-getElem?_pos, if_pos, if_neg, decide_eq_true, decide_eq_false, ]
      exact ⟨rfl, k0.trans' kk12⟩
  · have hEq : A ≠ B := fun hc => hlen (by rw [hc])
    by_cases hE0 : cE = 0
    · simp (disch := omega) [-getElem?_pos, if_pos, if_neg, decide_eq_true, decide_eq_false, hE0]
      refine AFn.pure (wakes_spec (hgb.kept wb kk12)) ?_
      simp (disch := omega) [-getElem?_pos, if_pos, if_neg, decide_eq_true, decide_eq_false, cells_kept wb kk12 c7, cells_kept wb kk12 c9, cut]
      refine AFn.pure (Within_spec (hA.kept wb kk12) (hB.kept wb kk12)) ?_
      rw [hE]
      simp (disch := omega) [-getElem?_pos, if_pos, if_neg, decide_eq_true, decide_eq_false, cells_kept wb kk12 c7, cells_kept wb kk12 c9, cut, hE0]
      refine AFn.pure (Equal_spec (hA.kept wb kk12) (hB.kept wb kk12)) ?_
      simp (disch := omega) [-getElem?_pos, if_pos, if_neg, decide_eq_true, decide_eq_false, cells_kept wb kk12 c7, cells_kept wb kk12 c9, cut, hEq]
      refine AFn.pure (same_spec (hgb.kept wb kk12) (hA.kept wb kk12) (hTA.kept wb kk12)) ?_
      simp (disch := omega) [-getElem?_pos, if_pos, if_neg, decide_eq_true, decide_eq_false, cells_kept wb kk12 c7, cells_kept wb kk12 c9, cut]
      refine AFn.pure (same_spec (hgb.kept wb kk12) (hB.kept wb kk12) (hTB.kept wb kk12)) ?_
      simp (disch := omega) [-getElem?_pos, if_pos, if_neg, decide_eq_true, decide_eq_false, ]
      exact ⟨rfl, k0.trans' kk12⟩
    · simp (disch := omega) [-getElem?_pos, if_pos, if_neg, decide_eq_true, decide_eq_false, hE0]
      refine AFn.pure (wakes_spec (hgb.kept wb kk12)) ?_
      simp (disch := omega) [-getElem?_pos, if_pos, if_neg, decide_eq_true, decide_eq_false, cells_kept wb kk12 c7, cells_kept wb kk12 c9, cut]
      refine AFn.pure (Within_spec (hA.kept wb kk12) (hB.kept wb kk12)) ?_
      rw [hE]
      simp (disch := omega) [-getElem?_pos, if_pos, if_neg, decide_eq_true, decide_eq_false, cells_kept wb kk12 c7, cells_kept wb kk12 c9, cut, hE0]
      refine AFn.pure (Equal_spec (hA.kept wb kk12) (hB.kept wb kk12)) ?_
      simp (disch := omega) [-getElem?_pos, if_pos, if_neg, decide_eq_true, decide_eq_false, cells_kept wb kk12 c7, cells_kept wb kk12 c9, cut, hEq]
      refine AFn.pure (same_spec (hgb.kept wb kk12) (hA.kept wb kk12) (hTA.kept wb kk12)) ?_
      simp (disch := omega) [-getElem?_pos, if_pos, if_neg, decide_eq_true, decide_eq_false, cells_kept wb kk12 c7, cells_kept wb kk12 c9, cut]
      refine AFn.pure (same_spec (hgb.kept wb kk12) (hB.kept wb kk12) (hTB.kept wb kk12)) ?_
      simp (disch := omega) [-getElem?_pos, if_pos, if_neg, decide_eq_true, decide_eq_false, ]
      exact ⟨rfl, k0.trans' kk12⟩
end Go.Proofs.YtakdkbdjjlmccaaDoor
