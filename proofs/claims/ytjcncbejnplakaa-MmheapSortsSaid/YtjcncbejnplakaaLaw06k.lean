/-
  IheapSorts: the whole.
-/
import Derived.Test.YtjcncbejnplakaaLaw06j
set_option maxRecDepth 100000
set_option linter.unusedSimpArgs false
set_option linter.unusedVariables false
namespace Go.Proofs.Ytjcncbejnplakaa
open Go Go.Abs

theorem IheapSorts_abs {H : AH} {v ev : Value} {L : List Ent} {E : List Bool} (h : Rd H 4 v L.length (cellsE L)) (he : Rd H 1 ev E.length (E.map Value.bool)) : AFn Try.prog F_law06_IheapSorts [v, ev] H fun u H' => u = .bool true ∧ H' = H := by
  refine AFn.calm (fun H0 hs => ?_) rfl
  replace h := Rd.same h hs
  replace he := Rd.same he hs
  refine AFn.enter mixed ir_law06_IheapSorts_eq (by simp [ir_law06_IheapSorts]) fun hw => ?_
  have hev := he.vw (p := fun _ => True) hw fun _ _ => trivial
  obtain ⟨A, hA⟩ : ∃ A, A = L.take 60 := ⟨_, rfl⟩
  have hAl : A.length ≤ 60 := by rw [hA, List.length_take]; omega
  have go := all_spec (m := 60) h (by omega)
  rw [← hA] at go
  clear hA
  simp (disch := omega) [-getElem?_pos, if_pos, if_neg, decide_eq_true, decide_eq_false, ir_law06_IheapSorts]
  refine go.mono' fun u H1 w1 ⟨hA1, k1⟩ => ?_
  obtain ⟨aa, ac, rfl⟩ := hA1.1.slice
  simp (disch := omega) [-getElem?_pos, if_pos, if_neg, decide_eq_true, decide_eq_false, ]
  refine (Build_spec hA1.1 (by omega)).mono' fun u H2 w2 ⟨q, S, hu, hB, k2, hq, hS⟩ => ?_
  subst hu
  simp (disch := omega) [-getElem?_pos, if_pos, if_neg, decide_eq_true, decide_eq_false, ]
  refine New_spec.mono' fun u H3 w3 ⟨hu, hN, k3⟩ => ?_
  subst hu
  have hn1 := k1.next
  have hn2 := k2.next
  have hn3 := k3.next
  have hqS := HeapT.lt (heapT_i.2 hB) w2
  have hN3 := HeapT.lt (heapT_i.2 hN) w3
  have hT : Tw T_iheap_Heap H0 (fun _ => False) H3 H2.next [] q (buildL A) (.slice aa A.length ac) A := by
    refine ⟨[], S, fun b => H0.next ≤ b ∧ b < H1.next, w3, k1.trans' (k2.trans' k3), hN, (heapT_i.2 hB).keep fun b hb => k3.blk b (hqS b hb) (by simp), ⟨(Vw.below hA1.1 w1).kept w1 (k2.trans' k3), hA1.2⟩, fun b hb => ?_, fun b hb => ?_, fun b hb => ?_, fun b hb => hb.elim⟩
    · simp only [List.mem_singleton] at hb
      subst hb
      exact ⟨by omega, fun hc => by have := hqS _ hc; omega, fun hc => by omega, id⟩
    · have : H1.next ≤ b := by
        rcases List.mem_cons.1 hb with rfl | hb
        · exact hq
        · exact hS b hb
      exact ⟨by omega, fun hc => by omega, id⟩
    · exact ⟨by omega, id⟩
  have hst := buildL_st A
  have hpm := sortL_eq isOrd (buildL_perm A)
  have hbl := (buildL_perm A).length_eq
  generalize buildL A = G1 at *
  generalize H2.next = q2 at *
  clear hN3 hN
  simp (disch := omega) [-getElem?_pos, if_pos, if_neg, decide_eq_true, decide_eq_false, ]
  refine AFn.pure wakes6_spec ?_
  simp (disch := omega) [-getElem?_pos, if_pos, if_neg, decide_eq_true, decide_eq_false, ]
  refine wpC_use (sorts_l1 (q1 := q) (q2 := q2) (L1 := G1) (A := A) (av := .slice aa A.length ac) (by omega) ⟨by simp, by simp, by simp, by simp, [], hT, nil_st, rfl, rfl⟩) fun e env2 H4 ⟨he', G2, hT4, hst2, hs2⟩ hout => ?_
  subst he'
  have f1 := hout 1 (by decide)
  have f5 := hout 5 (by decide)
  have f6 := hout 6 (by decide)
  have f7 := hout 7 (by decide)
  simp at f1 f5 f6 f7
  clear hout
  have w4 := hT4.wf
  obtain ⟨_, _, P4, _, _, _, _, hP4, _⟩ := id hT4
  simp (disch := omega) [-getElem?_pos, if_pos, if_neg, decide_eq_true, decide_eq_false, f5]
  refine (Sort_spec hP4).mono' fun u H5 w5 ⟨S5, hD5, k5, hS5⟩ => ?_
  have hsl := sort_length A
  obtain ⟨ba, bc, rfl⟩ := hD5.1.slice
  have hT5 := (hT4.list w5 (own_ents hD5.1 k5 hS5 hD5.2)).1.swap
  rw [← hpm] at hT5
  simp (disch := omega) [-getElem?_pos, if_pos, if_neg, decide_eq_true, decide_eq_false, f5]
  refine wpC_use (sorts_l0 hw (n := A.length) (q1 := q) (q2 := q2) (E := E) (ev := ev) hev (by omega) ⟨by simp [f1], by simp [f6], by simp [f7], by simp, by simp, G1, G2, _, by simp [hpm], hT5, hst, hst2, by rw [hpm, hs2], by omega⟩) fun e env3 H6 ⟨he', g6, g7, L1, L2, mv, hT6, hl1, hl2⟩ _ => ?_
  subst he'
  obtain rfl := List.length_eq_zero_iff.1 hl1
  obtain rfl := List.length_eq_zero_iff.1 hl2
  simp (disch := omega) [-getElem?_pos, if_pos, if_neg, decide_eq_true, decide_eq_false, g6, g7]
  refine hT6.popMin.mono' fun u H7 w7 ⟨hu, hT7, _⟩ => ?_
  subst hu
  have ht0 : tipO [] 0 = none := rfl
  have ht1 : tipO [] 1 = none := rfl
  have hp0 := pop_le [] 0
  generalize popL 0 [] = P0 at *
  obtain rfl := List.length_eq_zero_iff.1 (Nat.le_zero.1 hp0)
  have hbn : (H7.alloc zeroB).blk H7.next = some zeroB := by simp
  have hT8 := (hT7.kept w7.alloc (.alloc (B := zeroB))).1.swap
  rw [ht0]
  simp only [tellV]
  simp (disch := omega) [-getElem?_pos, if_pos, if_neg, decide_eq_true, decide_eq_false, g6, g7, writeA_row hbn, over]
  refine hT8.popMax.mono' fun u H9 w9 ⟨hu, hT9, _⟩ => ?_
  subst hu
  rw [ht1]
  simp only [tellV]
  have hT10 := (hT9.kept w9.alloc (.alloc (B := zeroB))).1.swap
  have hbn2 : (H9.alloc zeroB).blk H9.next = some zeroB := by simp
  simp (disch := omega) [-getElem?_pos, if_pos, if_neg, decide_eq_true, decide_eq_false, g6, g7, writeA_row hbn2, over]
  refine AFn.pure (Len_spec hT10.read1) ?_
  simp (disch := omega) [-getElem?_pos, if_pos, if_neg, decide_eq_true, decide_eq_false, ]
end Go.Proofs.Ytjcncbejnplakaa
