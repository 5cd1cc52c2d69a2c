/-
  Contracts of package iheap (2): second, pair, at, beats, tip, Push.
-/
import Derived.Test.YtgecnmjohhmfjaaIheap
set_option maxRecDepth 100000
set_option linter.unusedSimpArgs false
set_option linter.unusedVariables false
namespace Go.Proofs.Ytgecnmjohhmfjaa
open Go Go.Abs
def ltAt (L : List Ent) (i k : Nat) : Bool := match L[i]?, L[k]? with
  | some x, some y => x.lt y
  | _, _ => false
theorem ltAt_eq {L : List Ent} {i k : Nat} (hi : i < L.length) (hk : k < L.length) : ltAt L i k = (L[i]).lt L[k] := by
  unfold ltAt; rw [List.getElem?_eq_getElem hi, List.getElem?_eq_getElem hk]
theorem lessAt_spec {H : AH} {q : Nat} {L : List Ent} (h : HeapR H q L) {i k : Nat} (hi : i < L.length) (hk : k < L.length) : AFn Try.prog F_iheap_Heap_less [.pointer (some ⟨q, 0, none⟩), .int .i64 i, .int .i64 k] H fun u H' => u = .bool (ltAt L i k) ∧ H' = H := by
  rw [ltAt_eq hi hk]; exact less_spec h hi hk
def secondN (n k : Nat) : Nat := min (2 * k + 1) (n - 1)
def atN (n k e : Nat) : Nat := if e = 0 then 2 * k else secondN n k
def beatsL (L : List Ent) (a b e : Nat) : Bool := if e = 0 then ltAt L (atN L.length a e) (atN L.length b e) else ltAt L (atN L.length b e) (atN L.length a e)
def pairL (L : List Ent) (k : Nat) : List Ent := if ltAt L (secondN L.length k) (2 * k) then swapL L (secondN L.length k) (2 * k) else L
theorem HeapR.len {H : AH} {q : Nat} {L : List Ent} (h : HeapR H q L) : L.length ≤ 1000000 := by obtain ⟨v, _, _, h⟩ := h; exact h
theorem second_spec {H : AH} {q : Nat} {L : List Ent} (h : HeapR H q L) (hl : 0 < L.length) {k : Nat} (hk : k < 1000000) : AFn Try.prog F_iheap_Heap_second [.pointer (some ⟨q, 0, none⟩), .int .i64 k] H fun u H' => u = .int .i64 (secondN L.length k : Nat) ∧ H' = H := by
  have hln := h.len
  obtain ⟨v, h1, h2, h3⟩ := h
  obtain ⟨a, c, rfl⟩ := h2.slice
  refine AFn.enter mixed ir_iheap_Heap_second_eq (by simp [ir_iheap_Heap_second]) fun hw => ?_
  have hm : (if (L.length : Int) - 1 < 2 * (k : Int) + 1 then (L.length : Int) - 1 else 2 * (k : Int) + 1) = ((secondN L.length k : Nat) : Int) := by unfold secondN; split <;> omega
  have hm2 : min (2 * (k : Int) + 1) ((L.length : Int) - 1) = ((secondN L.length k : Nat) : Int) := by unfold secondN; omega
  generalize secondN L.length k = s at *
  simp (disch := omega) [-getElem?_pos, if_pos, if_neg, decide_eq_true, decide_eq_false, ir_iheap_Heap_second, h1, IntWalk.i64_in, hm]
  try omega
theorem at_spec {H : AH} {q : Nat} {L : List Ent} (h : HeapR H q L) (hl : 0 < L.length) {k e : Nat} (hk : k < 1000000) (he : e < 2) : AFn Try.prog F_iheap_Heap_at [.pointer (some ⟨q, 0, none⟩), .int .i64 k, .int .i64 e] H fun u H' => u = .int .i64 (atN L.length k e : Nat) ∧ H' = H := by
  refine AFn.enter mixed ir_iheap_Heap_at_eq (by simp [ir_iheap_Heap_at]) fun hw => ?_
  rcases (show e = 0 ∨ e = 1 by omega) with rfl | rfl
  · simp (disch := omega) [-getElem?_pos, if_pos, if_neg, decide_eq_true, decide_eq_false, ir_iheap_Heap_at, IntWalk.i64_in, atN]
  · simp (disch := omega) [-getElem?_pos, if_pos, if_neg, decide_eq_true, decide_eq_false, ir_iheap_Heap_at]
    refine AFn.pure (second_spec h hl hk) ?_
    simp (disch := omega) [-getElem?_pos, if_pos, if_neg, decide_eq_true, decide_eq_false, atN]
theorem beats_spec {H : AH} {q : Nat} {L : List Ent} (h : HeapR H q L) {a b e : Nat} (ha : 2 * a < L.length) (hb : 2 * b < L.length) (he : e < 2) : AFn Try.prog F_iheap_Heap_beats [.pointer (some ⟨q, 0, none⟩), .int .i64 a, .int .i64 b, .int .i64 e] H fun u H' => u = .bool (beatsL L a b e) ∧ H' = H := by
  have hln := h.len
  have hA : atN L.length a e < L.length := by unfold atN secondN; split <;> omega
  have hB : atN L.length b e < L.length := by unfold atN secondN; split <;> omega
  refine AFn.enter mixed ir_iheap_Heap_beats_eq (by simp [ir_iheap_Heap_beats]) fun hw => ?_
  rcases (show e = 0 ∨ e = 1 by omega) with rfl | rfl
  · simp (disch := omega) [-getElem?_pos, if_pos, if_neg, decide_eq_true, decide_eq_false, ir_iheap_Heap_beats]
    refine AFn.pure (at_spec (e := 0) h (by omega) (by omega) (by omega)) ?_
    simp (disch := omega) [-getElem?_pos, if_pos, if_neg, decide_eq_true, decide_eq_false, ]
    refine AFn.pure (at_spec (e := 0) h (by omega) (by omega) (by omega)) ?_
    simp (disch := omega) [-getElem?_pos, if_pos, if_neg, decide_eq_true, decide_eq_false, ]
    refine AFn.pure (lessAt_spec h hA hB) ?_
    simp (disch := omega) [-getElem?_pos, if_pos, if_neg, decide_eq_true, decide_eq_false, beatsL]
  · simp (disch := omega) [-getElem?_pos, if_pos, if_neg, decide_eq_true, decide_eq_false, ir_iheap_Heap_beats]
    refine AFn.pure (at_spec (e := 1) h (by omega) (by omega) (by omega)) ?_
    simp (disch := omega) [-getElem?_pos, if_pos, if_neg, decide_eq_true, decide_eq_false, ]
    refine AFn.pure (at_spec (e := 1) h (by omega) (by omega) (by omega)) ?_
    simp (disch := omega) [-getElem?_pos, if_pos, if_neg, decide_eq_true, decide_eq_false, ]
    refine AFn.pure (lessAt_spec h hB hA) ?_
    simp (disch := omega) [-getElem?_pos, if_pos, if_neg, decide_eq_true, decide_eq_false, beatsL]
theorem pair_spec {H : AH} {q : Nat} {L : List Ent} {S : List Nat} (h : HeapAt H q L S) {k : Nat} (hk : 2 * k < L.length) : AFn Try.prog F_iheap_Heap_pair [.pointer (some ⟨q, 0, none⟩), .int .i64 k] H fun u H' => HeapAt H' q (pairL L k) S ∧ Keep S H H' := by
  have hln := h.read.len
  have hS : secondN L.length k < L.length := by unfold secondN; omega
  refine AFn.enter mixed ir_iheap_Heap_pair_eq (by simp [ir_iheap_Heap_pair]) fun hw => ?_
  simp (disch := omega) [-getElem?_pos, if_pos, if_neg, decide_eq_true, decide_eq_false, ir_iheap_Heap_pair]
  refine AFn.pure (second_spec h.read (by omega) (by omega)) ?_
  have h2k : (2 * (k : Int)) = ((2 * k : Nat) : Int) := by omega
  simp (disch := omega) [-getElem?_pos, if_pos, if_neg, decide_eq_true, decide_eq_false, IntWalk.i64_in]
  rw [h2k]
  refine AFn.pure (lessAt_spec h.read hS hk) ?_
  unfold pairL
  cases hx : ltAt L (secondN L.length k) (2 * k) with
  | false =>
    simp (disch := omega) [-getElem?_pos, if_pos, if_neg, decide_eq_true, decide_eq_false, ]
    exact ⟨h, .refl⟩
  | true =>
    simp (disch := omega) [-getElem?_pos, if_pos, if_neg, decide_eq_true, decide_eq_false, IntWalk.i64_in]
    rw [h2k]
    refine (swap_spec h hS hk).mono' fun u H2 w2 ⟨h3, k3⟩ => ?_
    simp (disch := omega) [-getElem?_pos, if_pos, if_neg, decide_eq_true, decide_eq_false, ]
    exact ⟨h3, k3⟩
end Go.Proofs.Ytgecnmjohhmfjaa
