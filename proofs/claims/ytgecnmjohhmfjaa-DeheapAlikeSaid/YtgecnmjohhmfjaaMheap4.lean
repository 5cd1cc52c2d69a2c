/-
  Contracts of package mmheap (4): PopMin, PopMax, Min, Max, Push, New, List, Build.
-/
import Derived.Test.YtgecnmjohhmfjaaMheap3
set_option maxRecDepth 100000
set_option linter.unusedSimpArgs false
set_option linter.unusedVariables false
namespace Go.Proofs.Ytgecnmjohhmfjaa
open Go Go.Abs
def endM (L : List Ent) (e : Nat) : Nat := if e = 0 then 0 else lastM L
def tipM (L : List Ent) (e : Nat) : Option Ent := L[endM L e]?
def popM (e : Nat) (L : List Ent) : List Ent := if L.length = 0 then L else takeM (endM L e) L
theorem endM_lt {L : List Ent} (h : 0 < L.length) (e : Nat) : endM L e < L.length ∧ endM L e ≤ 2 := by
  unfold endM
  split
  · omega
  · exact lastM_lt h
theorem tipM_some {L : List Ent} (h : 0 < L.length) (e : Nat) : tipM L e = some (getE L (endM L e)) := by
  unfold tipM
  rw [List.getElem?_eq_getElem (endM_lt h e).1, getE_eq (endM_lt h e).1]
theorem tipM_none {L : List Ent} (h : L.length = 0) (e : Nat) : tipM L e = none := by unfold tipM; rw [List.getElem?_eq_none (by omega)]
theorem Len_read {H H' : AH} {q : Nat} {L : List Ent} {S : List Nat} (h : HeapM H q L S) (hw : WF H) (hk : Keep [] H H') : HeapR H' q L := (h.kept hw hk).read
theorem PopMin_specM {H : AH} {q : Nat} {L : List Ent} {S : List Nat} (h : HeapM H q L S) : AFn Try.prog F_mmheap_Heap_PopMin [.pointer (some ⟨q, 0, none⟩)] H fun u H' => u = tellV (tipM L 0) ∧ HeapM H' q (popM 0 L) S ∧ Keep (q :: S) H H' := by
  refine AFn.enter mixed ir_mmheap_Heap_PopMin_eq (by simp [ir_mmheap_Heap_PopMin]) fun hw => ?_
  obtain ⟨hqn, hSn⟩ := h.lt hw
  have hk1 : Keep [] H (H.alloc zeroB) := .alloc
  have h1 := h.kept hw hk1
  have hb1 : (H.alloc zeroB).blk H.next = some zeroB := by simp
  simp (disch := omega) [-getElem?_pos, if_pos, if_neg, decide_eq_true, decide_eq_false, ir_mmheap_Heap_PopMin]
  refine AFn.pure (Len_specM h1.read) ?_
  by_cases h0 : L.length = 0
  · rw [tipM_none h0]
    have hP : popM 0 L = L := by unfold popM; rw [if_pos h0]
    rw [hP]
    simp (disch := omega) [-getElem?_pos, if_pos, if_neg, decide_eq_true, decide_eq_false, h0, tellV, writeA_row hb1, over, cut]
    exact ⟨h1, hk1.mono fun b hb _ => by simp at hb⟩
  · rw [tipM_some (by omega)]
    have hP : popM 0 L = takeM 0 L := by unfold popM; rw [if_neg h0]; rfl
    rw [hP, show endM L 0 = 0 from rfl]
    simp (disch := omega) [-getElem?_pos, if_pos, if_neg, decide_eq_true, decide_eq_false, h0, show ¬ ((L.length : Int) = 0) by omega]
    refine (take_specM (i := 0) h1 (by omega)).mono' fun u H2 w2 ⟨hu, h2, k2⟩ => ?_
    subst hu
    have hb2 : H2.blk H.next = some zeroB := by rw [k2.blk _ (by simp) (fun hc => by rcases List.mem_cons.1 hc with h | h; omega; have := hSn _ h; omega)]; simp
    generalize getE L 0 = x at *
    simp (disch := omega) [-getElem?_pos, if_pos, if_neg, decide_eq_true, decide_eq_false, tellV, writeA_row hb2, over, cut]
    exact h2.scrap ((hk1.mono fun b hb _ => by simp at hb).trans' k2) hqn hSn (Nat.le_refl _)
theorem PopMax_specM {H : AH} {q : Nat} {L : List Ent} {S : List Nat} (h : HeapM H q L S) : AFn Try.prog F_mmheap_Heap_PopMax [.pointer (some ⟨q, 0, none⟩)] H fun u H' => u = tellV (tipM L 1) ∧ HeapM H' q (popM 1 L) S ∧ Keep (q :: S) H H' := by
  refine AFn.enter mixed ir_mmheap_Heap_PopMax_eq (by simp [ir_mmheap_Heap_PopMax]) fun hw => ?_
  obtain ⟨hqn, hSn⟩ := h.lt hw
  have hk1 : Keep [] H (H.alloc zeroB) := .alloc
  have h1 := h.kept hw hk1
  have hb1 : (H.alloc zeroB).blk H.next = some zeroB := by simp
  simp (disch := omega) [-getElem?_pos, if_pos, if_neg, decide_eq_true, decide_eq_false, ir_mmheap_Heap_PopMax]
  refine AFn.pure (Len_specM h1.read) ?_
  by_cases h0 : L.length = 0
  · rw [tipM_none h0]
    have hP : popM 1 L = L := by unfold popM; rw [if_pos h0]
    rw [hP]
    simp (disch := omega) [-getElem?_pos, if_pos, if_neg, decide_eq_true, decide_eq_false, h0, tellV, writeA_row hb1, over, cut]
    exact ⟨h1, hk1.mono fun b hb _ => by simp at hb⟩
  · rw [tipM_some (by omega)]
    have hP : popM 1 L = takeM (lastM L) L := by unfold popM; rw [if_neg h0]; rfl
    rw [hP, show endM L 1 = lastM L from rfl]
    have hll := (lastM_lt (L := L) (by omega)).1
    simp (disch := omega) [-getElem?_pos, if_pos, if_neg, decide_eq_true, decide_eq_false, h0, show ¬ ((L.length : Int) = 0) by omega]
    refine AFn.pure (last_specM h1.read (by omega)) ?_
    generalize lastM L = i at *
    simp (disch := omega) [-getElem?_pos, if_pos, if_neg, decide_eq_true, decide_eq_false, ]
    refine (take_specM (i := i) h1 hll).mono' fun u H2 w2 ⟨hu, h2, k2⟩ => ?_
    subst hu
    have hb2 : H2.blk H.next = some zeroB := by rw [k2.blk _ (by simp) (fun hc => by rcases List.mem_cons.1 hc with h | h; omega; have := hSn _ h; omega)]; simp
    generalize getE L i = x at *
    simp (disch := omega) [-getElem?_pos, if_pos, if_neg, decide_eq_true, decide_eq_false, tellV, writeA_row hb2, over, cut]
    exact h2.scrap ((hk1.mono fun b hb _ => by simp at hb).trans' k2) hqn hSn (Nat.le_refl _)
theorem Min_specM {H : AH} {q : Nat} {L : List Ent} (h : HeapR H q L) : AFn Try.prog F_mmheap_Heap_Min [.pointer (some ⟨q, 0, none⟩)] H fun u H' => u = tellV (tipM L 0) ∧ Keep [] H H' := by
  refine AFn.enter mixed ir_mmheap_Heap_Min_eq (by simp [ir_mmheap_Heap_Min]) fun hw => ?_
  have hk1 : Keep [] H (H.alloc zeroB) := .alloc
  have h1 := h.kept hw hk1
  have hb1 : (H.alloc zeroB).blk H.next = some zeroB := by simp
  have hK : ∀ B, Keep [] H (H.alloc B) := fun B => .alloc
  simp (disch := omega) [-getElem?_pos, if_pos, if_neg, decide_eq_true, decide_eq_false, ir_mmheap_Heap_Min]
  refine AFn.pure (Len_specM h1) ?_
  by_cases h0 : L.length = 0
  · rw [tipM_none h0]
    simp (disch := omega) [-getElem?_pos, if_pos, if_neg, decide_eq_true, decide_eq_false, h0, tellV, writeA_row hb1, over, cut]
    exact hK _
  · rw [tipM_some (by omega), show endM L 0 = 0 from rfl]
    obtain ⟨v, g1, g2, g3⟩ := id h
    obtain ⟨b, off, sp, cap, cs, rfl, hc, hall⟩ := ents_at g2 (by omega)
    have e1 := hall 0 (by omega)
    have hbn := cells_lt hw hc
    have hqn := cells_lt hw g1
    generalize getE L 0 = x at *
    simp only [Ent.cells, Nat.zero_mul, Nat.add_zero] at e1
    have hcx : cut [Value.int .i64 x.b, .int .i64 x.d, .int .i64 x.s, .int .i64 x.i] 0 4 = some [Value.int .i64 x.b, .int .i64 x.d, .int .i64 x.s, .int .i64 x.i] := rfl
    simp (disch := omega) [-getElem?_pos, if_pos, if_neg, decide_eq_true, decide_eq_false, h0, tellV, g1, hc, e1, hcx, writeA_row hb1, over, Nat.ne_of_lt hqn, Nat.ne_of_lt hbn, show ¬ ((L.length : Int) = 0) by omega, show (0:Int) < (L.length : Int) by omega]
    exact hK _
theorem Max_specM {H : AH} {q : Nat} {L : List Ent} (h : HeapR H q L) : AFn Try.prog F_mmheap_Heap_Max [.pointer (some ⟨q, 0, none⟩)] H fun u H' => u = tellV (tipM L 1) ∧ Keep [] H H' := by
  refine AFn.enter mixed ir_mmheap_Heap_Max_eq (by simp [ir_mmheap_Heap_Max]) fun hw => ?_
  have hk1 : Keep [] H (H.alloc zeroB) := .alloc
  have h1 := h.kept hw hk1
  have hb1 : (H.alloc zeroB).blk H.next = some zeroB := by simp
  have hK : ∀ B, Keep [] H (H.alloc B) := fun B => .alloc
  simp (disch := omega) [-getElem?_pos, if_pos, if_neg, decide_eq_true, decide_eq_false, ir_mmheap_Heap_Max]
  refine AFn.pure (Len_specM h1) ?_
  by_cases h0 : L.length = 0
  · rw [tipM_none h0]
    simp (disch := omega) [-getElem?_pos, if_pos, if_neg, decide_eq_true, decide_eq_false, h0, tellV, writeA_row hb1, over, cut]
    exact hK _
  · rw [tipM_some (by omega), show endM L 1 = lastM L from rfl]
    have hll := (lastM_lt (L := L) (by omega)).1
    have hls := last_specM h1 (by omega)
    obtain ⟨v, g1, g2, g3⟩ := id h
    obtain ⟨b, off, sp, cap, cs, rfl, hc, hall⟩ := ents_at g2 (by omega)
    have e1 := hall (lastM L) hll
    have hbn := cells_lt hw hc
    have hqn := cells_lt hw g1
    generalize lastM L = i at *
    generalize getE L i = x at *
    simp only [Ent.cells] at e1
    have hcx : cut [Value.int .i64 x.b, .int .i64 x.d, .int .i64 x.s, .int .i64 x.i] 0 4 = some [Value.int .i64 x.b, .int .i64 x.d, .int .i64 x.s, .int .i64 x.i] := rfl
    simp (disch := omega) [-getElem?_pos, if_pos, if_neg, decide_eq_true, decide_eq_false, h0, tellV, g1, hc, e1, hcx, writeA_row hb1, over, Nat.ne_of_lt hqn, Nat.ne_of_lt hbn, show ¬ ((L.length : Int) = 0) by omega]
    refine AFnD.of hls ?_
    simp (disch := omega) [-getElem?_pos, if_pos, if_neg, decide_eq_true, decide_eq_false, tellV, g1, hc, e1, hcx, writeA_row hb1, over, Nat.ne_of_lt hqn, Nat.ne_of_lt hbn, show (i:Int) < (L.length : Int) by omega]
    exact hK _
theorem List_specM {H : AH} {q : Nat} {L : List Ent} (h : HeapR H q L) : AFn Try.prog F_mmheap_Heap_List [.pointer (some ⟨q, 0, none⟩)] H fun u H' => ∃ S, Own H' T_key_Entry 4 u L.length (cellsE L) S ∧ Keep [] H H' ∧ ∀ b ∈ S, H.next ≤ b := by
  obtain ⟨v, h1, h2, h3⟩ := h
  refine AFn.enter mixed ir_mmheap_Heap_List_eq (by simp [ir_mmheap_Heap_List]) fun hw => ?_
  simp (disch := omega) [-getElem?_pos, if_pos, if_neg, decide_eq_true, decide_eq_false, ir_mmheap_Heap_List, h1]
  refine (CloneE_spec h2 h3).mono' fun u H2 w2 ⟨S, h4, k4, hS⟩ => ?_
  simp (disch := omega) [-getElem?_pos, if_pos, if_neg, decide_eq_true, decide_eq_false, ]
  exact ⟨S, h4, k4, hS⟩
def HeapMN (H0 : AH) (q : Nat) (S : List Nat) (L : List Ent) (H' : AH) : Prop := ∃ S', HeapM H' q L S' ∧ Keep (q :: S) H0 H' ∧ ∀ b ∈ S', b ∈ S ∨ H0.next ≤ b
theorem Push_specM {H : AH} {q : Nat} {L : List Ent} {S : List Nat} (h : HeapM H q L S) (x : Ent) (hl : L.length < 100000) : AFn Try.prog F_mmheap_Heap_Push [.pointer (some ⟨q, 0, none⟩), x.val] H fun u H' => HeapMN H q S (pushM L x) H' := by
  obtain ⟨v, h1, h2, h3, h4⟩ := id h
  obtain ⟨a, c, rfl⟩ := h2.slice
  refine AFn.enter mixed ir_mmheap_Heap_Push_eq (by simp [ir_mmheap_Heap_Push]) fun hw => ?_
  have hqn := hw.lt h1
  have hSn := h2.lt hw
  have hw1 : WF (H.alloc (.row [.int .i64 x.b, .int .i64 x.d, .int .i64 x.s, .int .i64 x.i] T_key_Entry true)) := hw.alloc
  obtain ⟨a', c', H5, S5, p1, p2, p3, p4, p5⟩ := (h2.alloc hw (B := .row [.int .i64 x.b, .int .i64 x.d, .int .i64 x.s, .int .i64 x.i] T_key_Entry true)).push hw1 T_key_Entry 32 1 [.int .i64 x.b, .int .i64 x.d, .int .i64 x.s, .int .i64 x.i] (by simp) (by omega) (by omega)
  have hq5 : H5.blk q = some (.row [.slice a L.length c] T_mmheap_Heap true) := by rw [p3.blk q (by simp; omega) h3, AH.alloc_blk_ne (by omega), h1]
  have hq5S : q ∉ S5 := fun hc => by
    rcases p5 q hc with h | h
    · exact h3 h
    · simp at h; omega
  have hM : HeapM (H5.set q (.row [.slice a' (L.length + 1) c'] T_mmheap_Heap true)) q (L ++ [x]) S5 := by
    refine ⟨_, AH.set_blk_same, ?_, hq5S, by simp; omega⟩
    rw [cellsE_append]
    simp only [List.length_append, List.length_cons, List.length_nil]
    exact p2.keep fun b hb => AH.set_blk_ne fun hc => hq5S (hc ▸ hb)
  have hk5 : Keep (q :: S) H (H5.set q (.row [.slice a' (L.length + 1) c'] T_mmheap_Heap true)) := by
    refine ((Keep.alloc (S := q :: S)).trans' ((p3.mono fun b hb _ => by simp [hb]) : Keep (q :: S) _ H5)).trans' (.set (by simp))
  have hS5 : ∀ b ∈ S5, b ∈ S ∨ H.next ≤ b := fun b hb => by
    rcases p5 b hb with h | h
    · exact .inl h
    · right; simp at h; omega
  simp (disch := omega) [-getElem?_pos, if_pos, if_neg, decide_eq_true, decide_eq_false, ir_mmheap_Heap_Push, AH.cells_of h1, elemsA, cut, p1, hq5, writeA, IntWalk.i64_in]
  generalize hH6 : H5.set q (.row [.slice a' (L.length + 1) c'] T_mmheap_Heap true) = H6 at *
  refine (up_specM hM (i := L.length) (by simp)).mono' fun u H7 w7 ⟨h7, k7⟩ => ?_
  simp (disch := omega) [-getElem?_pos, if_pos, if_neg, decide_eq_true, decide_eq_false, ]
  exact ⟨S5, h7, hk5.trans k7 (fun b hb hlt => by rcases hS5 b hb with h | h; exact List.mem_cons_of_mem _ h; omega), hS5⟩
def BuildMI (H : AH) (q : Nat) (l : List Ent) (S : List Nat) (j : Nat) (env : Env) (H' : AH) : Prop :=
  env 3 = some (.pointer (some ⟨q, 0, none⟩)) ∧ env 4 = some (.int .i64 ((j : Int) - 1)) ∧ WF H' ∧ Keep [] H H' ∧ j ≤ l.length ∧ ∃ M, M.length = l.length ∧ HeapM H' q M S ∧ buildM l = buildFrom j M
theorem Build_specM {p : Nat → Prop} {H : AH} {v : Value} {l : List Ent} (h : Vw p H 4 v l.length (cellsE l)) (hl : l.length < 100000) : AFn Try.prog F_mmheap_Build [v] H fun u H' => ∃ q S, u = .pointer (some ⟨q, 0, none⟩) ∧ HeapM H' q (buildM l) S ∧ Keep [] H H' ∧ H.next ≤ q ∧ ∀ b ∈ S, H.next ≤ b := by
  obtain ⟨a, c, rfl⟩ := h.slice
  refine AFn.enter mixed ir_mmheap_Build_eq (by simp [ir_mmheap_Build]) fun hw => ?_
  simp (disch := omega) [-getElem?_pos, if_pos, if_neg, decide_eq_true, decide_eq_false, ir_mmheap_Build]
  refine (CloneE_spec h (by omega)).mono' fun u H2 w2 ⟨S, o2, k2, hS⟩ => ?_
  have hSn := o2.lt w2
  obtain ⟨a2, c2, rfl⟩ := o2.slice
  have t1 : (l.length : Int).tdiv 2 = ((l.length / 2 : Nat) : Int) := by rw [Int.tdiv_eq_ediv_of_nonneg (by omega)]; norm_cast
  have hH3 : HeapM (H2.alloc (.row [.slice a2 l.length c2] T_mmheap_Heap true)) H2.next l S := ⟨_, AH.alloc_blk_new, o2.keep fun b hb => AH.alloc_blk_ne (Nat.ne_of_lt (hSn b hb)), fun hc => by have := hSn _ hc; omega, by omega⟩
  have hlh : l.length / 2 ≤ l.length ∧ l.length / 2 < 100000 := by omega
  obtain ⟨n2, hn2⟩ : ∃ n2, n2 = l.length / 2 := ⟨_, rfl⟩
  have hbm : buildM l = buildFrom n2 l := by unfold buildM; rw [hn2]
  rw [← hn2] at t1 hlh
  clear hn2
  simp (disch := omega) [-getElem?_pos, if_pos, if_neg, decide_eq_true, decide_eq_false, t1, IntWalk.i64_in]
  have hk3 : Keep [] H (H2.alloc (.row [.slice a2 l.length c2] T_mmheap_Heap true)) := .new_alloc k2
  have hw3 : WF (H2.alloc (.row [.slice a2 l.length c2] T_mmheap_Heap true)) := w2.alloc
  have hn2 := k2.next
  generalize H2.alloc (.row [.slice a2 l.length c2] T_mmheap_Heap true) = H3 at *
  refine wpC_use (loop_rule (BuildMI H H2.next l S) (Q := fun ex env H' => ex = .exit 0 ∧ BuildMI H H2.next l S 0 env H') ?_ (j := n2) ⟨by simp, by simp, hw3, hk3, hlh.1, l, rfl, hH3, hbm⟩) fun ex env2 H4 ⟨hex, hq⟩ _ => ?_
  · rintro j env H' ⟨e3, e4, w', k', hj, M, hM, hMh, hU⟩
    cases j with
    | zero =>
      simp (disch := omega) [-getElem?_pos, if_pos, if_neg, decide_eq_true, decide_eq_false, ir_mmheap_Build_l0, e4]
      exact ⟨e3, e4, w', k', hj, M, hM, hMh, hU⟩
    | succ j =>
      have e4' : env 4 = some (.int .i64 (j : Nat)) := by rw [e4]; congr 2; omega
      simp (disch := omega) [-getElem?_pos, if_pos, if_neg, decide_eq_true, decide_eq_false, ir_mmheap_Build_l0, e3, e4', show (0:Int) ≤ (j:Int) by omega]
      refine (down_specM hMh (show j < M.length by omega)).mono' fun u H5 w5 ⟨h5, k5⟩ => ?_
      simp (disch := omega) [-getElem?_pos, if_pos, if_neg, decide_eq_true, decide_eq_false, e3, e4', IntWalk.i64_in]
      exact ⟨j, by omega, by simp [e3], by simp, w5, k'.trans k5 (fun b hb hlt => by have := hS b hb; omega), by omega, _, by rw [downM_length]; exact hM, h5, hU⟩
  · subst hex
    obtain ⟨e3, e4, w4, k4, _, M, hM, hMh, hU⟩ := hq
    simp (disch := omega) [-getElem?_pos, if_pos, if_neg, decide_eq_true, decide_eq_false, e3]
    rw [hU]
    exact ⟨S, hMh, k4, hn2, hS⟩
end Go.Proofs.Ytgecnmjohhmfjaa
