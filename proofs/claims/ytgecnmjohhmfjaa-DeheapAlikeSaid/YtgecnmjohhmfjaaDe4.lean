/-
  Contracts of package deheap (4): Drop, Sorted, build, Bulk, New.
-/
import Derived.Test.YtgecnmjohhmfjaaDe3
import Derived.Test.YtgecnmjohhmfjaaRen
set_option maxRecDepth 100000
set_option linter.unusedSimpArgs false
set_option linter.unusedVariables false
namespace Go.Proofs.Ytgecnmjohhmfjaa
open Go Go.Abs
section
variable {H : AH} {d : Nat} {k : Bool} {most : Int} {M : List Ent} {S : List Nat}
def DrI (H : AH) (d : Nat) (k : Bool) (most : Int) (M : List Ent) (S : List Nat) (bd : Int) (j : Nat) (env : Env) (H' : AH) : Prop :=
  j ≤ M.length ∧ env 0 = some (pV d) ∧ env 1 = some (.int .i64 bd) ∧ WF H' ∧ Keep S H H' ∧ DeH H' d k most (M.take j) S ∧ (∃ out T, env 5 = some out ∧ DatAt H' out (M.drop j).reverse T ∧ ∀ b ∈ T, H.next ≤ b) ∧ ∀ p, j ≤ p → p < M.length → bd ≤ (getE M p).b
def DrP (H : AH) (d : Nat) (k : Bool) (most : Int) (M : List Ent) (S : List Nat) (bd : Int) (u : Value) (H' : AH) : Prop :=
  ∃ j, j ≤ M.length ∧ DeH H' d k most (M.take j) S ∧ Keep S H H' ∧ (∃ T, DatAt H' u (M.drop j) T ∧ ∀ b ∈ T, H.next ≤ b) ∧ (∀ p, j ≤ p → p < M.length → bd ≤ (getE M p).b) ∧ (j = 0 ∨ (getE M (j - 1)).b < bd)
def DrQ (H : AH) (d : Nat) (k : Bool) (most : Int) (M : List Ent) (S : List Nat) (bd : Int) (e : AExit) (env : Env) (H' : AH) : Prop :=
  e = .ret ∧ ∃ u, env 4 = some u ∧ DrP H d k most M S bd u H'
theorem take_top {M : List Ent} {j : Nat} (h : j < M.length) : endE (M.take (j + 1)) true = some (getE M j) ∧ restE (M.take (j + 1)) true = M.take j ∧ (M.drop j).reverse = (M.drop (j + 1)).reverse ++ [getE M j] := by
  have h1 : (M.take (j + 1)).length = j + 1 := by rw [List.length_take]; omega
  refine ⟨?_, ?_, ?_⟩
  · unfold endE
    rw [if_pos rfl, List.getLast?_eq_getElem?, h1, List.getElem?_take_of_lt (by omega), Nat.add_sub_cancel, List.getElem?_eq_getElem (by omega), getE_eq (by omega)]
  · unfold restE
    rw [if_pos rfl, List.dropLast_eq_take, h1, List.take_take]
    congr 1; omega
  · rw [List.drop_eq_getElem_cons h, List.reverse_cons, getE_eq h]
theorem DDrop_spec (h : DeH H d k most M S) (bd : Int) : AFn Try.prog F_deheap_Heap_Drop [pV d, .int .i64 bd] H (DrP H d k most M S bd) := by
  have hl := h.len
  refine AFn.enter mixed ir_deheap_Heap_Drop_eq (by simp [ir_deheap_Heap_Drop]) fun hw => ?_
  have hSlt := h.lt hw
  simp (disch := omega) [-getElem?_pos, if_pos, if_neg, decide_eq_true, decide_eq_false, ir_deheap_Heap_Drop]
  refine wpC_use (loop_rule (DrI H d k most M S bd) (Q := DrQ H d k most M S bd) ?_ (j := M.length) ⟨Nat.le_refl _, by simp, by simp, hw, .refl, by simpa using h, ⟨_, [], by simp; rfl, ⟨by simpa [cellsE] using Own.nil, by simp⟩, by simp⟩, by omega⟩) ?_
  · rintro j env H' ⟨hj, e0, e1, w', k', hD, ⟨out, T, e5, hO, hT⟩, hall⟩
    have hn := k'.next
    simp (disch := omega) [-getElem?_pos, if_pos, if_neg, decide_eq_true, decide_eq_false, ir_deheap_Heap_Drop_l0, e0, e1]
    refine (DMax_spec hD).mono' fun u H2 w2 ⟨hu, hD2, k2⟩ => ?_
    subst hu
    have hn2 := k2.next
    have hO2 : DatAt H2 out (M.drop j).reverse T := ⟨hO.1.kept w' k2 fun b hb hs => by have := hT b hb; have := hSlt b hs; omega, hO.2⟩
    obtain ⟨oa, oc, rfl⟩ := hO.1.slice
    have hcx : ∀ x : Ent, cut [Value.int .i64 x.b, .int .i64 x.d, .int .i64 x.s, .int .i64 x.i] 0 4 = some [Value.int .i64 x.b, .int .i64 x.d, .int .i64 x.s, .int .i64 x.i] := fun _ => rfl
    have hbz : (H2.alloc (.row [.int .i64 0, .int .i64 0, .int .i64 0, .int .i64 0] T_key_Entry true)).blk H2.next = some (.row [.int .i64 0, .int .i64 0, .int .i64 0, .int .i64 0] T_key_Entry true) := by simp
    cases j with
    | zero =>
      have h0 : endE (M.take 0) true = none := rfl
      rw [h0]
      have k3 : Keep [] H2 (H2.alloc (.row zeroE.cells T_key_Entry true)) := .alloc
      have hO3 : DatAt (H2.alloc (.row zeroE.cells T_key_Entry true)) (.slice oa (M.drop 0).reverse.length oc) (M.drop 0).reverse T := ⟨hO2.1.kept w2 k3 (by simp), hO2.2⟩
      have hD3 := hD2.kept w2 k3
      have w3 := WF.alloc w2 (B := .row zeroE.cells T_key_Entry true)
      have hnn : (H2.alloc (.row zeroE.cells T_key_Entry true)).next = H2.next + 1 := rfl
      simp only [Ent.cells, zeroE] at k3 hO3 hD3 w3 hnn
      simp (disch := omega) [-getElem?_pos, if_pos, if_neg, decide_eq_true, decide_eq_false, tellV, writeA_row hbz, over, hcx, e5]
      generalize H2.alloc (.row [.int .i64 0, .int .i64 0, .int .i64 0, .int .i64 0] T_key_Entry true) = H3 at *
      simp only [List.drop_zero, List.length_reverse] at hO3
      refine (Reverse_spec hO3).mono' fun u H4 w4 ⟨hO4, k4⟩ => ?_
      simp (disch := omega) [-getElem?_pos, if_pos, if_neg, decide_eq_true, decide_eq_false, e5]
      rw [List.reverse_reverse] at hO4
      refine ⟨rfl, _, (by simp; rfl), 0, Nat.zero_le _, hD3.keep fun b hb => k4.blk b (hD3.lt w3 b hb) (fun ht => by have := hT b ht; have := hSlt b hb; omega), ?_, ⟨T, by simpa using hO4, hT⟩, hall, .inl rfl⟩
      refine ⟨by have := k4.next; omega, fun b hb hs => ?_⟩
      rw [k4.blk b (by omega) (fun ht => by have := hT b ht; omega), k3.blk b (by omega) (by simp), k2.blk b (by omega) hs, k'.blk b hb hs]
    | succ j =>
      obtain ⟨t1, t2, t3⟩ := take_top (M := M) (j := j) (by omega)
      rw [t1]
      have hx : getE M j = getE M j := rfl
      generalize hxe : getE M j = x at t1 t3
      have k3 : Keep [] H2 (H2.alloc (.row x.cells T_key_Entry true)) := .alloc
      have hO3 : DatAt (H2.alloc (.row x.cells T_key_Entry true)) (.slice oa (M.drop (j + 1)).reverse.length oc) (M.drop (j + 1)).reverse T := ⟨hO2.1.kept w2 k3 (by simp), hO2.2⟩
      have hD3 := hD2.kept w2 k3
      have w3 := WF.alloc w2 (B := .row x.cells T_key_Entry true)
      have hnn : (H2.alloc (.row x.cells T_key_Entry true)).next = H2.next + 1 := rfl
      have hc3 : (H2.alloc (.row x.cells T_key_Entry true)).cells H2.next = some x.cells := AH.cells_alloc_new
      simp only [Ent.cells] at k3 hO3 hD3 w3 hnn hc3
      by_cases hb : x.b < bd
      · simp (disch := omega) [-getElem?_pos, if_pos, if_neg, decide_eq_true, decide_eq_false, tellV, writeA_row hbz, over, hcx, e5, e1, hb]
        generalize H2.alloc (.row [.int .i64 x.b, .int .i64 x.d, .int .i64 x.s, .int .i64 x.i] T_key_Entry true) = H3 at *
        simp only [List.length_reverse, List.length_drop] at hO3
        refine (Reverse_spec hO3).mono' fun u H4 w4 ⟨hO4, k4⟩ => ?_
        simp (disch := omega) [-getElem?_pos, if_pos, if_neg, decide_eq_true, decide_eq_false, e5]
        rw [List.reverse_reverse] at hO4
        refine ⟨rfl, _, (by simp; rfl), j + 1, hj, hD3.keep fun b hb => k4.blk b (hD3.lt w3 b hb) (fun ht => by have := hT b ht; have := hSlt b hb; omega), ?_, ⟨T, by simpa using hO4, hT⟩, hall, .inr (by rw [Nat.add_sub_cancel, hxe]; exact hb)⟩
        refine ⟨by have := k4.next; omega, fun b hb hs => ?_⟩
        rw [k4.blk b (by omega) (fun ht => by have := hT b ht; omega), k3.blk b (by omega) (by simp), k2.blk b (by omega) hs, k'.blk b hb hs]
      · simp (disch := omega) [-getElem?_pos, if_pos, if_neg, decide_eq_true, decide_eq_false, tellV, writeA_row hbz, over, hcx, e5, e0, e1, hb]
        generalize H2.alloc (.row [.int .i64 x.b, .int .i64 x.d, .int .i64 x.s, .int .i64 x.i] T_key_Entry true) = H3 at *
        refine (DPopMax_spec hD3).mono' fun u H4 w4 ⟨hu, hD4, k4⟩ => ?_
        rw [t2] at hD4
        have hn4 := k4.next
        have hc4 : H4.cells H2.next = some [.int .i64 x.b, .int .i64 x.d, .int .i64 x.s, .int .i64 x.i] := cells_keep w3 k4 (fun hs => by have := hSlt _ hs; omega) hc3
        have hO4 : DatAt H4 (.slice oa (M.drop (j + 1)).reverse.length oc) (M.drop (j + 1)).reverse T := ⟨hO3.1.kept w3 k4 fun b hb hs => by have := hT b hb; have := hSlt b hs; omega, hO3.2⟩
        obtain ⟨a', c', H5, T', p1, p2, p3, p4, p5⟩ := hO4.push w4 x (by simp; omega)
        have hlt4 := hD4.lt w4
        have hlen : (M.drop (j + 1)).reverse.length = M.length - (j + 1) := by simp
        rw [hlen] at p1 p2
        simp only [Ent.cells] at p1
        simp (disch := omega) [-getElem?_pos, if_pos, if_neg, decide_eq_true, decide_eq_false, e0, e1, e5, hc4, hcx, elemsA, p1]
        refine ⟨j, by omega, by omega, by simp [e0], by simp [e1], p4, ?_, hD4.keep fun b hb => p3.blk b (hlt4 b hb) (fun ht => by have := hT b ht; have := hSlt b hb; omega), ⟨_, T', by simp; rfl, ?_, fun b hb => (p5 b hb).elim (hT b) fun h => by omega⟩, ?_⟩
        · refine ⟨by have := p3.next; omega, fun b hb hs => ?_⟩
          rw [p3.blk b (by omega) (fun ht => by have := hT b ht; omega), k4.blk b (by omega) hs, k3.blk b (by omega) (by simp), k2.blk b (by omega) hs, k'.blk b hb hs]
        · rw [t3]; simpa using p2
        · intro p h1 h2
          by_cases hp : p = j
          · rw [hp, hxe]; omega
          · exact hall p (by omega) h2
  · rintro e env2 H2 ⟨rfl, u, e4, hq⟩ _
    simp (disch := omega) [-getElem?_pos, if_pos, if_neg, decide_eq_true, decide_eq_false, e4]
    exact hq
theorem DSorted_spec (h : DeH H d k most M S) : AFn Try.prog F_deheap_Heap_Sorted [pV d] H fun u H' => ∃ T, DatAt H' u M T ∧ Keep [] H H' ∧ ∀ b ∈ T, H.next ≤ b := by
  obtain ⟨q, T, rfl, h1, h2, h3, h4⟩ := h
  refine AFn.enter mixed ir_deheap_Heap_Sorted_eq (by simp [ir_deheap_Heap_Sorted]) fun hw => ?_
  have hc := AH.cells_of h1
  simp (disch := omega) [-getElem?_pos, if_pos, if_neg, decide_eq_true, decide_eq_false, ir_deheap_Heap_Sorted, hc]
  refine (inList_spec h2).mono_wf fun u H2 w2 ⟨L, hL, hE, k2⟩ => ?_
  obtain ⟨a, c, rfl⟩ := hE.1.slice
  simp (disch := omega) [-getElem?_pos, if_pos, if_neg, decide_eq_true, decide_eq_false, ]
  refine (Sort_spec hE).mono' fun u H3 w3 ⟨T3, hD, k3, hT⟩ => ?_
  simp (disch := omega) [-getElem?_pos, if_pos, if_neg, decide_eq_true, decide_eq_false, ]
  rw [hL] at hD
  exact ⟨T3, hD, k2.trans' k3, fun b hb => Nat.le_trans k2.next (hT b hb)⟩
theorem build_spec {p : Nat → Prop} {v : Value} {l : List Ent} (hv : EntsV p H v l) (hl : l.length ≤ 1000) : AFn Try.prog F_deheap_build [.int .i64 (kI k), v] H fun u H' => ∃ q T, u = ifc k q ∧ InH H' k q (sortL Ent.lt l) T ∧ Keep [] H H' ∧ q ∉ T ∧ ∀ b ∈ q :: T, H.next ≤ b := by
  refine AFn.enter mixed ir_deheap_build_eq (by simp [ir_deheap_build]) fun hw => ?_
  cases k with
  | true =>
    simp (disch := omega) [-getElem?_pos, if_pos, if_neg, decide_eq_true, decide_eq_false, ir_deheap_build, kI]
    refine (Build_spec hv.1 (by omega)).mono' fun u H2 w2 ⟨q, T, hu, hB, k2, hq, hT⟩ => ?_
    subst hu
    simp (disch := omega) [-getElem?_pos, if_pos, if_neg, decide_eq_true, decide_eq_false, ]
    refine ⟨q, ⟨rfl, rfl⟩, T, ⟨buildL l, heapT_i.2 hB, buildL_st l, sortL_eq isOrd (buildL_perm l), ?_⟩, k2, ?_, ?_⟩
    · rw [(buildL_perm l).length_eq]; exact hl
    · obtain ⟨_, _, _, h, _⟩ := hB; exact h
    · exact ⟨hq, hT⟩
  | false =>
    simp (disch := omega) [-getElem?_pos, if_pos, if_neg, decide_eq_true, decide_eq_false, ir_deheap_build, kI]
    refine (Build_specM hv.1 (by omega)).mono' fun u H2 w2 ⟨q, T, hu, hB, k2, hq, hT⟩ => ?_
    subst hu
    simp (disch := omega) [-getElem?_pos, if_pos, if_neg, decide_eq_true, decide_eq_false, ]
    refine ⟨q, ⟨rfl, rfl⟩, T, ⟨buildM l, heapT_m.2 hB, buildM_st l, sortL_eq isOrd (buildM_perm l), ?_⟩, k2, ?_, ?_⟩
    · rw [(buildM_perm l).length_eq]; exact hl
    · obtain ⟨_, _, _, h, _⟩ := hB; exact h
    · exact ⟨hq, hT⟩
def DeF (H : AH) (k : Bool) (most : Int) (M : List Ent) (u : Value) (H' : AH) : Prop := ∃ d S, u = .tuple #[pV d, .int .i64 0] ∧ DeH H' d k most M S ∧ Keep [] H H' ∧ ∀ b ∈ S, H.next ≤ b
theorem Bulk_spec {p : Nat → Prop} {v : Value} {l : List Ent} (hv : EntsV p H v l) (hm : 1 ≤ most ∧ most ≤ 1048576) (hl : l.length ≤ 1000) (hlm : (l.length : Int) ≤ most) : AFn Try.prog F_deheap_Bulk [.int .i64 (kI k), .int .i64 most, v] H (DeF H k most (sortL Ent.lt l)) := by
  refine AFn.enter mixed ir_deheap_Bulk_eq (by simp [ir_deheap_Bulk]) fun hw => ?_
  obtain ⟨a, c, rfl⟩ := hv.1.slice
  have hk : (0 : Int) ≤ kI k ∧ kI k < 2 := by cases k <;> simp [kI]
  simp (disch := omega) [-getElem?_pos, if_pos, if_neg, decide_eq_true, decide_eq_false, ir_deheap_Bulk]
  refine (build_spec hv hl).mono' fun u H2 w2 ⟨q, T, hu, hI, k2, hq, hT⟩ => ?_
  subst hu
  have hlt := hI.lt w2
  simp (disch := omega) [-getElem?_pos, if_pos, if_neg, decide_eq_true, decide_eq_false, over]
  refine ⟨H2.next, H2.next :: q :: T, rfl, ⟨q, T, rfl, AH.alloc_blk_new, hI.keep fun b hb => AH.alloc_blk_ne (by have := hlt b hb; omega), fun hc => by have := hlt _ hc; omega, by rw [sort_length]; exact hlm⟩, k2.trans' .alloc, ?_⟩
  intro b hb
  rcases List.mem_cons.1 hb with rfl | hb
  · exact k2.next
  · exact hT b hb
theorem Bulk_err {p : Nat → Prop} {v : Value} {n : Nat} {cells : List Value} {kd : Int} (hv : Vw p H 4 v n cells) (hb : ¬ (0 ≤ kd ∧ kd < 2 ∧ 1 ≤ most ∧ most ≤ 1048576 ∧ (n : Int) ≤ most)) : AFn Try.prog F_deheap_Bulk [.int .i64 kd, .int .i64 most, v] H fun u H' =>
    u = .tuple #[.pointer none, .int .i64 (if kd < 0 ∨ 2 ≤ kd then 25 else if most < 1 ∨ 1048576 < most then 2 else 10)] ∧ H' = H := by
  refine AFn.enter mixed ir_deheap_Bulk_eq (by simp [ir_deheap_Bulk]) fun hw => ?_
  obtain ⟨a, c, rfl⟩ := hv.slice
  by_cases h1 : kd < 0
  · simp (disch := omega) [-getElem?_pos, if_pos, if_neg, decide_eq_true, decide_eq_false, ir_deheap_Bulk, h1]
  · by_cases h2 : kd ≥ 2
    · simp (disch := omega) [-getElem?_pos, if_pos, if_neg, decide_eq_true, decide_eq_false, ir_deheap_Bulk, h1, h2]
    · by_cases h3 : most < 1
      · simp (disch := omega) [-getElem?_pos, if_pos, if_neg, decide_eq_true, decide_eq_false, ir_deheap_Bulk, h1, h2, h3]
      · by_cases h4 : most > 1048576
        · simp (disch := omega) [-getElem?_pos, if_pos, if_neg, decide_eq_true, decide_eq_false, ir_deheap_Bulk, h1, h2, h3, h4]
        · simp (disch := omega) [-getElem?_pos, if_pos, if_neg, decide_eq_true, decide_eq_false, ir_deheap_Bulk, h1, h2, h3, h4]
theorem DNew_spec (hm : 1 ≤ most ∧ most ≤ 1048576) : AFn Try.prog F_deheap_New [.int .i64 (kI k), .int .i64 most] H (DeF H k most []) := by
  refine AFn.enter mixed ir_deheap_New_eq (by simp [ir_deheap_New]) fun hw => ?_
  simp (disch := omega) [-getElem?_pos, if_pos, if_neg, decide_eq_true, decide_eq_false, ir_deheap_New]
  refine (Bulk_spec (p := fun _ => True) (l := []) .nil hm (by simp) (by simp; omega)).mono' fun u H2 w2 ⟨d, S, hu, hD, k2, hS⟩ => ?_
  subst hu
  simp (disch := omega) [-getElem?_pos, if_pos, if_neg, decide_eq_true, decide_eq_false, ]
  exact ⟨d, S, rfl, hD, k2, hS⟩
theorem DNew_err {kd : Int} (hb : ¬ (0 ≤ kd ∧ kd < 2 ∧ 1 ≤ most ∧ most ≤ 1048576)) : AFn Try.prog F_deheap_New [.int .i64 kd, .int .i64 most] H fun u H' =>
    u = .tuple #[.pointer none, .int .i64 (if kd < 0 ∨ 2 ≤ kd then 25 else 2)] ∧ H' = H := by
  refine AFn.enter mixed ir_deheap_New_eq (by simp [ir_deheap_New]) fun hw => ?_
  simp (disch := omega) [-getElem?_pos, if_pos, if_neg, decide_eq_true, decide_eq_false, ir_deheap_New]
  refine (Bulk_err (p := fun _ => True) (n := 0) (cells := []) .nil (by omega)).mono' fun u H2 w2 ⟨hu, hH⟩ => ?_
  subst hu hH
  simp (disch := omega) [-getElem?_pos, if_pos, if_neg, decide_eq_true, decide_eq_false, ]
end
end Go.Proofs.Ytgecnmjohhmfjaa
