/-
  Contracts of package iheap: what each function does to the list of its entries.
-/
import Derived.Test.YtgecnmjohhmfjaaHeap0
set_option maxRecDepth 100000
set_option linter.unusedSimpArgs false
set_option linter.unusedVariables false
namespace Go.Proofs.Ytgecnmjohhmfjaa
open Go Go.Abs
def HeapAt (H : AH) (q : Nat) (L : List Ent) (S : List Nat) : Prop :=
  ∃ v, H.blk q = some (.row [v] T_iheap_Heap true) ∧ Own H T_key_Entry 4 v L.length (cellsE L) S ∧ q ∉ S ∧ L.length ≤ 1000000
theorem HeapAt.read {H : AH} {q : Nat} {L : List Ent} {S : List Nat} (h : HeapAt H q L S) : HeapR H q L := by
  obtain ⟨v, h1, h2, h3, h4⟩ := h
  exact ⟨v, AH.cells_of h1, h2.vw fun _ _ => trivial, h4⟩
theorem HeapAt.kept {H H' : AH} {q : Nat} {L : List Ent} {S : List Nat} (h : HeapAt H q L S) (hw : WF H) (hk : Keep [] H H') : HeapAt H' q L S := by
  obtain ⟨v, h1, h2, h3, h4⟩ := h
  exact ⟨v, by rw [hk.blk q (hw.lt h1) (by simp), h1], h2.kept hw hk (by simp), h3, h4⟩
theorem less_spec {H : AH} {q : Nat} {L : List Ent} (h : HeapR H q L) {i k : Nat} (hi : i < L.length) (hk : k < L.length) : AFn Try.prog F_iheap_Heap_less [.pointer (some ⟨q, 0, none⟩), .int .i64 i, .int .i64 k] H fun u H' => u = .bool (L[i].lt L[k]) ∧ H' = H := by
  refine AFn.calm (fun H0 hs => ?_) rfl
  obtain ⟨v, h1, h2, h3⟩ := h.same hs
  obtain ⟨b, off, sp, cap, cs, rfl, h4, h5⟩ := entries_at h2 (by omega)
  have g1 := h5 i hi
  have g2 := h5 k hk
  refine AFn.enter mixed ir_iheap_Heap_less_eq (by simp [ir_iheap_Heap_less]) fun hw => ?_
  generalize L[i] = x at *
  generalize L[k] = y at *
  simp (disch := omega) [-getElem?_pos, if_pos, if_neg, decide_eq_true, decide_eq_false, ir_iheap_Heap_less, h1, h4, g1, g2]
  refine AFnD.of (Less_spec x y) ?_
  simp (disch := omega) [-getElem?_pos, if_pos, if_neg, decide_eq_true, decide_eq_false, ]
theorem above_spec {H : AH} {i e : Nat} (hi : 2 ≤ i) (hi2 : i < 1000000) (he : e < 2) : AFn Try.prog F_iheap_above [.int .i64 i, .int .i64 e] H fun u H' => u = .int .i64 (((i / 2 - 1) / 2 * 2 + e : Nat) : Int) ∧ H' = H := by
  refine AFn.enter mixed ir_iheap_above_eq (by simp [ir_iheap_above]) fun hw => ?_
  have t1 : (i : Int).tdiv 2 = ((i / 2 : Nat) : Int) := by rw [Int.tdiv_eq_ediv_of_nonneg (by omega)]; norm_cast
  have t2 : ((i / 2 : Nat) : Int) - 1 = ((i / 2 - 1 : Nat) : Int) := by omega
  have t3 : ((i / 2 - 1 : Nat) : Int).tdiv 2 = (((i / 2 - 1) / 2 : Nat) : Int) := by rw [Int.tdiv_eq_ediv_of_nonneg (by omega)]; norm_cast
  generalize hz : (i / 2 - 1) / 2 = z at *
  generalize hy : i / 2 - 1 = y at *
  generalize hx : i / 2 = x at *
  simp (disch := omega) [-getElem?_pos, if_pos, if_neg, decide_eq_true, decide_eq_false, ir_iheap_above, t1, t2, t3, IntWalk.i64_in]
theorem swap_spec {H : AH} {q : Nat} {L : List Ent} {S : List Nat} (h : HeapAt H q L S) {i k : Nat} (hi : i < L.length) (hk : k < L.length) : AFn Try.prog F_iheap_Heap_swap [.pointer (some ⟨q, 0, none⟩), .int .i64 i, .int .i64 k] H fun u H' => HeapAt H' q (swapL L i k) S ∧ Keep S H H' := by
  obtain ⟨v, h1, h2, h3, h4⟩ := id h
  have hr := h.read
  obtain ⟨v', g1, g2, _⟩ := hr
  have hv : v' = v := by rw [AH.cells_of h1] at g1; cases g1; rfl
  subst hv
  obtain ⟨b, off, sp, cap, cs, rfl, rfl, q1, q2, q3, q4⟩ := h2.pos (by omega)
  have hcut := entries_at g2 (by omega)
  obtain ⟨b', off', sp', cap', cs', he, hc', hall⟩ := hcut
  cases he
  rw [q2] at hc'
  cases hc'
  have e1 := hall i hi
  have e2 := hall k hk
  have hbq : b ≠ q := fun hc => h3 (by simp [hc])
  refine AFn.enter mixed ir_iheap_Heap_swap_eq (by simp [ir_iheap_Heap_swap]) fun hw => ?_
  have hmi : i * 4 + 4 ≤ L.length * 4 := by omega
  have hmk : k * 4 + 4 ≤ L.length * 4 := by omega
  obtain ⟨p1, p2, _⟩ := h2.write q1 (k := i * 4) (news := L[k].cells) (by simp [Ent.cells]; omega)
  rw [cellsE_set L i L[k] hi] at p2
  have p2' : Own (H.set b (.row (over cs (off + i * 4) L[k].cells) T_key_Entry true)) T_key_Entry 4 (.slice (some ⟨b, off, sp⟩) L.length cap) (L.set i L[k]).length (cellsE (L.set i L[k])) [b] := by rw [List.length_set]; exact p2
  have hq1' : (H.set b (.row (over cs (off + i * 4) L[k].cells) T_key_Entry true)).blk b = some (.row (over cs (off + i * 4) L[k].cells) T_key_Entry true) := AH.set_blk_same
  obtain ⟨p3, p4, _⟩ := p2.write hq1' (k := k * 4) (news := L[i].cells) (by simp [Ent.cells]; omega)
  rw [cellsE_set (L.set i L[k]) k L[i] (by simpa using hk)] at p4
  have hsw : swapL L i k = (L.set i L[k]).set k L[i] := by unfold swapL; rw [List.getElem?_eq_getElem hi, List.getElem?_eq_getElem hk]
  have hlen := swapL_length L i k
  rw [← hsw] at p4
  generalize L[i] = x at *
  generalize L[k] = y at *
  have lx : x.cells.length = 4 := rfl
  have ly : y.cells.length = 4 := rfl
  simp (disch := omega) [-getElem?_pos, if_pos, if_neg, decide_eq_true, decide_eq_false, ir_iheap_Heap_swap, AH.cells_of h1, q2, e1, e2, lx, ly, p1, p3]
  rw [AH.set_set] at p4
  refine ⟨⟨_, ?_, by rw [hlen]; exact p4, h3, by omega⟩, ?_⟩
  · rw [AH.set_blk_ne (Ne.symm hbq)]; exact h1
  · rw [← AH.set_set (B := .row (over cs (off + i * 4) y.cells) T_key_Entry true)]
    exact (Keep.set (by simp)).trans' (Keep.set (by simp))
theorem Len_spec {H : AH} {q : Nat} {L : List Ent} (h : HeapR H q L) : AFn Try.prog F_iheap_Heap_Len [.pointer (some ⟨q, 0, none⟩)] H fun u H' => u = .int .i64 L.length ∧ H' = H := by
  obtain ⟨v, h1, h2, h3⟩ := h
  obtain ⟨a, c, rfl⟩ := h2.slice
  refine AFn.enter mixed ir_iheap_Heap_Len_eq (by simp [ir_iheap_Heap_Len]) fun hw => ?_
  simp (disch := omega) [-getElem?_pos, if_pos, if_neg, decide_eq_true, decide_eq_false, ir_iheap_Heap_Len, h1]
def riseL (e : Nat) (i : Nat) (L : List Ent) : List Ent :=
  if h : 2 ≤ i ∧ e < 2 then
    let up := (i / 2 - 1) / 2 * 2 + e
    match L[i]?, L[up]? with
    | some x, some y => if (e = 0 ∧ x.lt y = false) ∨ (e = 1 ∧ y.lt x = false) then L else riseL e up (swapL L i up)
    | _, _ => L
  else L
termination_by i
decreasing_by omega
theorem riseL_length (e : Nat) : ∀ (i : Nat) (L : List Ent), (riseL e i L).length = L.length := by
  intro i
  induction i using Nat.strongRecOn with
  | ind i ih =>
    intro L
    rw [riseL]
    split
    · rename_i h
      simp only
      split
      · split
        · rfl
        · rw [ih _ (by omega), swapL_length]
      · rfl
    · rfl
def RiseI (H : AH) (q e : Nat) (L0 : List Ent) (S : List Nat) (i0 : Nat) (j : Nat) (env : Env) (H' : AH) : Prop :=
  env 0 = some (.pointer (some ⟨q, 0, none⟩)) ∧ env 2 = some (.int .i64 e) ∧ env 1 = some (.int .i64 (j : Nat)) ∧ WF H' ∧ Keep S H H' ∧ ∃ L, j < L.length ∧ HeapAt H' q L S ∧ riseL e i0 L0 = riseL e j L
theorem rise_spec {H : AH} {q : Nat} {L : List Ent} {S : List Nat} (h : HeapAt H q L S) {i e : Nat} (hi : i < L.length) (he : e < 2) : AFn Try.prog F_iheap_Heap_rise [.pointer (some ⟨q, 0, none⟩), .int .i64 i, .int .i64 e] H fun u H' => HeapAt H' q (riseL e i L) S ∧ Keep S H H' := by
  refine AFn.enter mixed ir_iheap_Heap_rise_eq (by simp [ir_iheap_Heap_rise]) fun hw => ?_
  simp (disch := omega) [-getElem?_pos, if_pos, if_neg, decide_eq_true, decide_eq_false, ir_iheap_Heap_rise]
  refine wpC_use (loop_rule (RiseI H q e L S i) (Q := fun ex env H' => (ex = .exit 0 ∨ ex = .ret) ∧ HeapAt H' q (riseL e i L) S ∧ Keep S H H') ?_ (j := i) ⟨by simp, by simp, by simp, hw, .refl, L, hi, h, rfl⟩) fun ex env2 H2 ⟨hex, hq⟩ _ => ?_
  · rintro j env H' ⟨e0, e2, e1, w', k', M, hj, hM, hU⟩
    have hMl : M.length ≤ 1000000 := by obtain ⟨_, _, _, _, h4⟩ := hM; exact h4
    by_cases h2 : 2 ≤ j
    · obtain ⟨up, hup⟩ : ∃ up, up = (j / 2 - 1) / 2 * 2 + e := ⟨_, rfl⟩
      have hlt : up < j := by omega
      rw [riseL.eq_def e j M, dif_pos ⟨h2, he⟩] at hU
      simp only [← hup, List.getElem?_eq_getElem hj, List.getElem?_eq_getElem (show up < M.length by omega)] at hU
      simp (disch := omega) [-getElem?_pos, if_pos, if_neg, decide_eq_true, decide_eq_false, ir_iheap_Heap_rise_l0, e0, e1, e2]
      refine AFn.pure (above_spec h2 (by omega) he) ?_
      rw [← hup]
      clear hup
      rcases (show e = 0 ∨ e = 1 by omega) with rfl | rfl
      · simp (disch := omega) [-getElem?_pos, if_pos, if_neg, decide_eq_true, decide_eq_false, e0, e1, e2]
        refine AFn.pure (less_spec hM.read hj (show up < M.length by omega)) ?_
        cases hx : (M[j]).lt M[up] with
        | false =>
          rw [hx] at hU
          simp (disch := omega) [-getElem?_pos, if_pos, if_neg, decide_eq_true, decide_eq_false, e0, e1, e2]
          simp at hU
          first | exact ⟨by rw [hU]; exact hM, k'⟩ | exact ⟨.inr rfl, by rw [hU]; exact hM, k'⟩ | exact ⟨.inl rfl, by rw [hU]; exact hM, k'⟩
        | true =>
          rw [hx] at hU
          simp at hU
          simp (disch := omega) [-getElem?_pos, if_pos, if_neg, decide_eq_true, decide_eq_false, e0, e1, e2]
          refine (swap_spec hM hj (show up < M.length by omega)).mono' fun u H3 w3 ⟨h3, k3⟩ => ?_
          simp (disch := omega) [-getElem?_pos, if_pos, if_neg, decide_eq_true, decide_eq_false, e0, e1, e2]
          exact ⟨up, hlt, by simp [e0], by simp [e2], by simp, w3, k'.trans' k3, _, by rw [swapL_length]; omega, h3, hU⟩
      · simp (disch := omega) [-getElem?_pos, if_pos, if_neg, decide_eq_true, decide_eq_false, e0, e1, e2]
        refine AFn.pure (less_spec hM.read (show up < M.length by omega) hj) ?_
        cases hx : (M[up]).lt M[j] with
        | false =>
          rw [hx] at hU
          simp (disch := omega) [-getElem?_pos, if_pos, if_neg, decide_eq_true, decide_eq_false, e0, e1, e2]
          simp at hU
          first | exact ⟨by rw [hU]; exact hM, k'⟩ | exact ⟨.inr rfl, by rw [hU]; exact hM, k'⟩ | exact ⟨.inl rfl, by rw [hU]; exact hM, k'⟩
        | true =>
          rw [hx] at hU
          simp at hU
          simp (disch := omega) [-getElem?_pos, if_pos, if_neg, decide_eq_true, decide_eq_false, e0, e1, e2]
          refine (swap_spec hM hj (show up < M.length by omega)).mono' fun u H3 w3 ⟨h3, k3⟩ => ?_
          simp (disch := omega) [-getElem?_pos, if_pos, if_neg, decide_eq_true, decide_eq_false, e0, e1, e2]
          exact ⟨up, hlt, by simp [e0], by simp [e2], by simp, w3, k'.trans' k3, _, by rw [swapL_length]; omega, h3, hU⟩
    · rw [riseL.eq_def e j M, dif_neg (by omega)] at hU
      simp (disch := omega) [-getElem?_pos, if_pos, if_neg, decide_eq_true, decide_eq_false, ir_iheap_Heap_rise_l0, e1]
      first | exact ⟨by rw [hU]; exact hM, k'⟩ | exact ⟨.inr rfl, by rw [hU]; exact hM, k'⟩ | exact ⟨.inl rfl, by rw [hU]; exact hM, k'⟩
  · rcases hex with rfl | rfl
    · simp (disch := omega) [-getElem?_pos, if_pos, if_neg, decide_eq_true, decide_eq_false, ]
      exact hq
    · simp (disch := omega) [-getElem?_pos, if_pos, if_neg, decide_eq_true, decide_eq_false, ]
      exact hq
end Go.Proofs.Ytgecnmjohhmfjaa
