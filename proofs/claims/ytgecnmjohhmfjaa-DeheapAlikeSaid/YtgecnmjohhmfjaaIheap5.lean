/-
  Contracts of package iheap (5): pop, Min, Max, PopMin, PopMax.
-/
import Derived.Test.YtgecnmjohhmfjaaIheap4
set_option maxRecDepth 100000
set_option linter.unusedSimpArgs false
set_option linter.unusedVariables false
namespace Go.Proofs.Ytgecnmjohhmfjaa
open Go Go.Abs
abbrev zeroB : Blk := .row [.int .i64 0, .int .i64 0, .int .i64 0, .int .i64 0] T_key_Entry true
abbrev entB (x : Ent) : Blk := .row [.int .i64 x.b, .int .i64 x.d, .int .i64 x.s, .int .i64 x.i] T_key_Entry true
def popL (e : Nat) (L : List Ent) : List Ent :=
  if L.length = 0 then L else
  let M := (swapL L (atN L.length 0 e) (L.length - 1)).take (L.length - 1)
  if 2 < L.length then sinkL e 0 M else M
theorem HeapAt.scrap {H H6 : AH} {q b0 : Nat} {L : List Ent} {S : List Nat} {B : Blk} (h : HeapAt H6 q L S) (hk : Keep (q :: S) H H6) (hq : q < H.next) (hS : ∀ b ∈ S, b < H.next) (hb : H.next ≤ b0) : HeapAt (H6.set b0 B) q L S ∧ Keep (q :: S) H (H6.set b0 B) := by
  obtain ⟨v, h1, h2, h3, h4⟩ := h
  exact ⟨⟨v, by rw [AH.set_blk_ne (by omega), h1], h2.keep fun b hb => AH.set_blk_ne (by have := hS b hb; omega), h3, h4⟩, hk.next, fun a ha hn => by rw [AH.set_blk_ne (by omega)]; exact hk.blk a ha hn⟩
theorem pop_spec {H : AH} {q : Nat} {L : List Ent} {S : List Nat} (h : HeapAt H q L S) {e : Nat} (he : e < 2) : AFn Try.prog F_iheap_Heap_pop [.pointer (some ⟨q, 0, none⟩), .int .i64 e] H fun u H' => u = tellV (tipO L e) ∧ HeapAt H' q (popL e L) S ∧ Keep (q :: S) H H' := by
  have hln := h.read.len
  refine AFn.enter mixed ir_iheap_Heap_pop_eq (by simp [ir_iheap_Heap_pop]) fun hw => ?_
  have hqn : q < H.next := by obtain ⟨v, h1, _⟩ := h; exact hw.lt h1
  have hSn : ∀ b ∈ S, b < H.next := by obtain ⟨v, _, h2, _⟩ := h; exact h2.lt hw
  have hk1 : Keep [] H (H.alloc zeroB) := .alloc
  simp (disch := omega) [-getElem?_pos, if_pos, if_neg, decide_eq_true, decide_eq_false, ir_iheap_Heap_pop]
  refine (tip_spec (h.kept hw hk1).read he).mono' fun u H2 w2 ⟨hu, k2⟩ => ?_
  subst hu
  have hk2 : Keep [] H H2 := hk1.trans' k2
  have h2 := h.kept hw hk2
  have hn2 : H.next < H2.next := by have := k2.next; simp at this; omega
  have hb4 : H2.blk H.next = some zeroB := by rw [k2.blk _ (by simp) (by simp)]; simp
  by_cases h0 : L.length = 0
  · have hT : tipO L e = none := by unfold tipO; rw [List.getElem?_eq_none (by omega)]
    rw [hT]
    have hP : popL e L = L := by unfold popL; rw [if_pos h0]
    rw [hP]
    have hb6 : (H2.alloc zeroB).blk H2.next = some zeroB := by simp
    have hb4' : (H2.alloc zeroB).blk H.next = some zeroB := by rw [AH.alloc_blk_ne (by omega)]; exact hb4
    simp (disch := omega) [-getElem?_pos, if_pos, if_neg, decide_eq_true, decide_eq_false, tellV, writeA_row hb6, over, cut, writeA_row hb4']
    have hK : Keep [] H ((H2.alloc zeroB).set H.next zeroB) := .new_set (Nat.le_refl _) hk2.new_alloc
    exact ⟨h.kept hw hK, hK.mono fun b hb _ => by simp at hb⟩
  · have hA : atN L.length 0 e < L.length := atN_lt (by omega)
    have hT : tipO L e = some L[atN L.length 0 e] := by unfold tipO; rw [List.getElem?_eq_getElem hA]
    rw [hT]
    generalize L[atN L.length 0 e] = x at *
    obtain ⟨m, hm⟩ : ∃ m, m = L.length - 1 := ⟨_, rfl⟩
    have hmi : (L.length : Int) - 1 = (m : Int) := by omega
    have hP : popL e L = if 2 < L.length then sinkL e 0 ((swapL L (atN L.length 0 e) m).take m) else (swapL L (atN L.length 0 e) m).take m := by unfold popL; rw [if_neg h0, hm]
    rw [hP]
    clear hP hT
    have hb6 : (H2.alloc zeroB).blk H2.next = some zeroB := by simp
    have hk3 : Keep [] H (H2.alloc (entB x)) := hk2.new_alloc
    have h3 := h.kept hw hk3
    obtain ⟨v, g1, g2, g3, g4⟩ := id h3
    obtain ⟨a, c, rfl⟩ := g2.slice
    simp (disch := omega) [-getElem?_pos, if_pos, if_neg, decide_eq_true, decide_eq_false, tellV, writeA_row hb6, over, cut, AH.cells_of g1, hmi, IntWalk.i64_in]
    refine AFn.pure (at_spec (k := 0) h3.read (by omega) (by omega) he) ?_
    simp (disch := omega) [-getElem?_pos, if_pos, if_neg, decide_eq_true, decide_eq_false, ]
    refine (swap_spec h3 hA (show m < L.length by omega)).mono' fun u H4 w4 ⟨h4, k4⟩ => ?_
    have hb4a : H4.blk H.next = some zeroB := by rw [k4.blk _ (by simp; omega) (fun hc => by have := hSn _ hc; omega), AH.alloc_blk_ne (by omega)]; exact hb4
    have hb6a : H4.blk H2.next = some (entB x) := by rw [k4.blk _ (by simp) (fun hc => by have := hSn _ hc; omega)]; simp
    have hk4 : Keep S H H4 := (hk3.mono fun b hb _ => by simp at hb).trans' k4
    have hl4 : (swapL L (atN L.length 0 e) m).length = L.length := swapL_length _ _ _
    generalize swapL L (atN L.length 0 e) m = M at *
    obtain ⟨v4, p1, p2, p3, p4⟩ := id h4
    obtain ⟨b, off, sp, cap, cs, rfl, hS, q1, q2, q3, q4⟩ := p2.pos (by omega)
    have hcap : M.length ≤ cap := by obtain ⟨b', off', sp', cap', cs', hv, _, _, _, _, hh, _⟩ := p2.at (by omega); cases hv; exact hh
    have p2' := p2.first (k := m) (show m ≤ M.length by omega)
    rw [cellsE_take] at p2'
    have hMt : (M.take m).length = m := by rw [List.length_take]; omega
    have hcase : L.length ≤ 2 → ¬ (1:Int) < (m:Int) := by omega
    rcases q3 with rfl | rfl
    all_goals
      generalize hsl : Value.slice (some ⟨b, off, _⟩) m cap = sl at p2'
      have h5 : HeapAt (H4.set q (.row [sl] T_iheap_Heap true)) q (M.take m) S := by
        refine ⟨sl, AH.set_blk_same, ?_, p3, by omega⟩
        rw [hMt]
        exact p2'.keep fun b hb => AH.set_blk_ne fun hc => p3 (hc ▸ hb)
      have hk5 : Keep (q :: S) H (H4.set q (.row [sl] T_iheap_Heap true)) := (hk4.mono fun b hb _ => by simp [hb]).trans' (.set (by simp))
      have hb4b : (H4.set q (.row [sl] T_iheap_Heap true)).blk H.next = some zeroB := by rw [AH.set_blk_ne (by omega)]; exact hb4a
      have hb6b : (H4.set q (.row [sl] T_iheap_Heap true)).blk H2.next = some (entB x) := by rw [AH.set_blk_ne (by omega)]; exact hb6a
      have w5 : WF (H4.set q (.row [sl] T_iheap_Heap true)) := w4.set (w4.lt p1)
      have hone : one sl = true := (p2'.vw (p := fun _ => True) fun _ _ => trivial).agg.1
      simp (disch := omega) [-getElem?_pos, if_pos, if_neg, decide_eq_true, decide_eq_false, AH.cells_of p1, writeA_row p1, over, IntWalk.i64_in, hsl, hone]
      generalize H4.set q (.row [sl] T_iheap_Heap true) = H5 at *
      by_cases h2l : 2 < L.length
      · simp (disch := omega) [-getElem?_pos, if_pos, if_neg, decide_eq_true, decide_eq_false, h2l, show (1:Int) < (m:Int) by omega]
        refine (sink_spec h5 (show 0 < (M.take m).length by omega) he).mono' fun u H6 w6 ⟨h6, k6⟩ => ?_
        have hb4c : H6.blk H.next = some zeroB := by rw [k6.blk _ (w5.lt hb4b) (fun hc => by have := hSn _ hc; omega)]; exact hb4b
        have hb6c : H6.blk H2.next = some (entB x) := by rw [k6.blk _ (w5.lt hb6b) (fun hc => by have := hSn _ hc; omega)]; exact hb6b
        simp (disch := omega) [-getElem?_pos, if_pos, if_neg, decide_eq_true, decide_eq_false, AH.cells_of hb6c, cut, writeA_row hb4c, over]
        exact h6.scrap (hk5.trans' (k6.mono fun b hb _ => by simp [hb])) hqn hSn (Nat.le_refl _)
      · simp (disch := omega) [-getElem?_pos, if_pos, if_neg, decide_eq_true, decide_eq_false, h2l, hcase (by omega), AH.cells_of hb6b, cut, writeA_row hb4b, over]
        exact h5.scrap hk5 hqn hSn (Nat.le_refl _)
theorem Min_spec {H : AH} {q : Nat} {L : List Ent} (h : HeapR H q L) : AFn Try.prog F_iheap_Heap_Min [.pointer (some ⟨q, 0, none⟩)] H fun u H' => u = tellV (tipO L 0) ∧ Keep [] H H' := by
  refine AFn.enter mixed ir_iheap_Heap_Min_eq (by simp [ir_iheap_Heap_Min]) fun hw => ?_
  have hk1 : Keep [] H (H.alloc zeroB) := .alloc
  simp (disch := omega) [-getElem?_pos, if_pos, if_neg, decide_eq_true, decide_eq_false, ir_iheap_Heap_Min]
  refine (tip_spec (e := 0) (h.kept hw hk1) (by omega)).mono' fun u H2 w2 ⟨hu, k2⟩ => ?_
  subst hu
  have hb : H2.blk H.next = some zeroB := by rw [k2.blk _ (by simp) (by simp)]; simp
  have hK : ∀ B, Keep [] H (H2.set H.next B) := fun B => .new_set (Nat.le_refl _) (hk1.trans' k2)
  generalize tipO L 0 = o at *
  cases o <;> simp (disch := omega) [-getElem?_pos, if_pos, if_neg, decide_eq_true, decide_eq_false, tellV, writeA_row hb, over, cut] <;> exact hK _
theorem Max_spec {H : AH} {q : Nat} {L : List Ent} (h : HeapR H q L) : AFn Try.prog F_iheap_Heap_Max [.pointer (some ⟨q, 0, none⟩)] H fun u H' => u = tellV (tipO L 1) ∧ Keep [] H H' := by
  refine AFn.enter mixed ir_iheap_Heap_Max_eq (by simp [ir_iheap_Heap_Max]) fun hw => ?_
  have hk1 : Keep [] H (H.alloc zeroB) := .alloc
  simp (disch := omega) [-getElem?_pos, if_pos, if_neg, decide_eq_true, decide_eq_false, ir_iheap_Heap_Max]
  refine (tip_spec (e := 1) (h.kept hw hk1) (by omega)).mono' fun u H2 w2 ⟨hu, k2⟩ => ?_
  subst hu
  have hb : H2.blk H.next = some zeroB := by rw [k2.blk _ (by simp) (by simp)]; simp
  have hK : ∀ B, Keep [] H (H2.set H.next B) := fun B => .new_set (Nat.le_refl _) (hk1.trans' k2)
  generalize tipO L 1 = o at *
  cases o <;> simp (disch := omega) [-getElem?_pos, if_pos, if_neg, decide_eq_true, decide_eq_false, tellV, writeA_row hb, over, cut] <;> exact hK _
theorem PopMin_spec {H : AH} {q : Nat} {L : List Ent} {S : List Nat} (h : HeapAt H q L S) : AFn Try.prog F_iheap_Heap_PopMin [.pointer (some ⟨q, 0, none⟩)] H fun u H' => u = tellV (tipO L 0) ∧ HeapAt H' q (popL 0 L) S ∧ Keep (q :: S) H H' := by
  refine AFn.enter mixed ir_iheap_Heap_PopMin_eq (by simp [ir_iheap_Heap_PopMin]) fun hw => ?_
  have hqn : q < H.next := by obtain ⟨v, h1, _⟩ := h; exact hw.lt h1
  have hSn : ∀ b ∈ S, b < H.next := by obtain ⟨v, _, h2, _⟩ := h; exact h2.lt hw
  have hk1 : Keep [] H (H.alloc zeroB) := .alloc
  simp (disch := omega) [-getElem?_pos, if_pos, if_neg, decide_eq_true, decide_eq_false, ir_iheap_Heap_PopMin]
  refine (pop_spec (e := 0) (h.kept hw hk1) (by omega)).mono' fun u H2 w2 ⟨hu, h2, k2⟩ => ?_
  subst hu
  have hb : H2.blk H.next = some zeroB := by rw [k2.blk _ (by simp) (fun hc => by rcases List.mem_cons.1 hc with h | h; omega; have := hSn _ h; omega)]; simp
  have hK : ∀ B, HeapAt (H2.set H.next B) q (popL 0 L) S ∧ Keep (q :: S) H (H2.set H.next B) := fun B => h2.scrap ((hk1.mono fun b hb _ => by simp at hb).trans' k2) hqn hSn (Nat.le_refl _)
  generalize tipO L 0 = o at *
  cases o <;> simp (disch := omega) [-getElem?_pos, if_pos, if_neg, decide_eq_true, decide_eq_false, tellV, writeA_row hb, over, cut] <;> exact hK _
theorem PopMax_spec {H : AH} {q : Nat} {L : List Ent} {S : List Nat} (h : HeapAt H q L S) : AFn Try.prog F_iheap_Heap_PopMax [.pointer (some ⟨q, 0, none⟩)] H fun u H' => u = tellV (tipO L 1) ∧ HeapAt H' q (popL 1 L) S ∧ Keep (q :: S) H H' := by
  refine AFn.enter mixed ir_iheap_Heap_PopMax_eq (by simp [ir_iheap_Heap_PopMax]) fun hw => ?_
  have hqn : q < H.next := by obtain ⟨v, h1, _⟩ := h; exact hw.lt h1
  have hSn : ∀ b ∈ S, b < H.next := by obtain ⟨v, _, h2, _⟩ := h; exact h2.lt hw
  have hk1 : Keep [] H (H.alloc zeroB) := .alloc
  simp (disch := omega) [-getElem?_pos, if_pos, if_neg, decide_eq_true, decide_eq_false, ir_iheap_Heap_PopMax]
  refine (pop_spec (e := 1) (h.kept hw hk1) (by omega)).mono' fun u H2 w2 ⟨hu, h2, k2⟩ => ?_
  subst hu
  have hb : H2.blk H.next = some zeroB := by rw [k2.blk _ (by simp) (fun hc => by rcases List.mem_cons.1 hc with h | h; omega; have := hSn _ h; omega)]; simp
  have hK : ∀ B, HeapAt (H2.set H.next B) q (popL 1 L) S ∧ Keep (q :: S) H (H2.set H.next B) := fun B => h2.scrap ((hk1.mono fun b hb _ => by simp at hb).trans' k2) hqn hSn (Nat.le_refl _)
  generalize tipO L 1 = o at *
  cases o <;> simp (disch := omega) [-getElem?_pos, if_pos, if_neg, decide_eq_true, decide_eq_false, tellV, writeA_row hb, over, cut] <;> exact hK _
end Go.Proofs.Ytgecnmjohhmfjaa
