/-
  PLAIN LAW: heaps of either kind, by their list in order.
-/
import Derived.Test.YtgecnmjohhmfjaaLaw06f
import Derived.Test.YtgecnmjohhmfjaaMheap4
import Derived.Test.YtgecnmjohhmfjaaPsB
set_option maxRecDepth 100000
set_option linter.unusedSimpArgs false
set_option linter.unusedVariables false
namespace Go.Proofs.Ytgecnmjohhmfjaa
open Go Go.Abs
theorem sort_length (A : List Ent) : (sortL Ent.lt A).length = A.length := (sortL_perm isOrd A).length_eq
theorem rest_min {L : List Ent} (h : StL L) : restE (sortL Ent.lt L) false = sortL Ent.lt (popL 0 L) := by
  unfold restE
  rw [if_neg (by simp)]
  by_cases h0 : L.length = 0
  · obtain rfl := List.length_eq_zero_iff.1 h0; rfl
  · rw [srt_min h (by omega), List.tail_cons]
theorem rest_max {L : List Ent} (h : StL L) : restE (sortL Ent.lt L) true = sortL Ent.lt (popL 1 L) := by
  unfold restE
  rw [if_pos rfl]
  by_cases h0 : L.length = 0
  · obtain rfl := List.length_eq_zero_iff.1 h0; rfl
  · rw [srt_max h (by omega), List.dropLast_concat]
theorem end_min {L : List Ent} (h : StL L) : endE (sortL Ent.lt L) false = tipO L 0 := by rw [tip_min h]; rfl
theorem end_max {L : List Ent} (h : StL L) : endE (sortL Ent.lt L) true = tipO L 1 := by rw [tip_max h]; rfl
theorem pop_le (L : List Ent) (e : Nat) : (popL e L).length ≤ L.length := by
  by_cases h0 : L.length = 0
  · unfold popL; rw [if_pos h0]; exact Nat.le_refl _
  · rw [pop_length (by omega)]; omega
theorem push_sort {L : List Ent} (x : Ent) : insL Ent.lt (sortL Ent.lt L) x = sortL Ent.lt (pushL L x) := by
  rw [insL_sortL isOrd]
  exact sortL_eq isOrd (pushL_perm L x).symm
theorem srt_minP {L : List Ent} (h : StMl L) (h0 : 0 < L.length) : sortL Ent.lt L = getE L 0 :: sortL Ent.lt (popM 0 L) := by
  rw [srt_minM h h0]; unfold popM; rw [if_neg (by omega)]; rfl
theorem srt_maxP {L : List Ent} (h : StMl L) (h0 : 0 < L.length) : sortL Ent.lt L = sortL Ent.lt (popM 1 L) ++ [getE L (lastM L)] := by
  have := srt_maxM h h0
  unfold popM; rw [if_neg (by omega)]; exact this
theorem tip_minM {L : List Ent} (h : StMl L) : tipM L 0 = (sortL Ent.lt L).head? := by
  by_cases h0 : L.length = 0
  · rw [List.length_eq_zero_iff.1 h0]; rfl
  · rw [srt_minP h (by omega), List.head?_cons, tipM_some (by omega)]; rfl
theorem tip_maxM {L : List Ent} (h : StMl L) : tipM L 1 = (sortL Ent.lt L).getLast? := by
  by_cases h0 : L.length = 0
  · rw [List.length_eq_zero_iff.1 h0]; rfl
  · rw [srt_maxP h (by omega), List.getLast?_concat, tipM_some (by omega)]; rfl
theorem popM_st {L : List Ent} (h : StMl L) (e : Nat) : StMl (popM e L) := by
  unfold popM
  split
  · exact h
  · exact takeM_st h (endM_lt (by omega) e).1 (endM_lt (by omega) e).2
theorem popM_length {L : List Ent} (h : 0 < L.length) (e : Nat) : (popM e L).length = L.length - 1 := by
  unfold popM; rw [if_neg (by omega), takeM_length (endM_lt h e).1]
theorem popM_le (L : List Ent) (e : Nat) : (popM e L).length ≤ L.length := by
  by_cases h0 : L.length = 0
  · unfold popM; rw [if_pos h0]; exact Nat.le_refl _
  · rw [popM_length (by omega)]; omega
theorem restM_min {L : List Ent} (h : StMl L) : restE (sortL Ent.lt L) false = sortL Ent.lt (popM 0 L) := by
  unfold restE
  rw [if_neg (by simp)]
  by_cases h0 : L.length = 0
  · obtain rfl := List.length_eq_zero_iff.1 h0; rfl
  · rw [srt_minP h (by omega), List.tail_cons]
theorem restM_max {L : List Ent} (h : StMl L) : restE (sortL Ent.lt L) true = sortL Ent.lt (popM 1 L) := by
  unfold restE
  rw [if_pos rfl]
  by_cases h0 : L.length = 0
  · obtain rfl := List.length_eq_zero_iff.1 h0; rfl
  · rw [srt_maxP h (by omega), List.dropLast_concat]
theorem endM_min {L : List Ent} (h : StMl L) : endE (sortL Ent.lt L) false = tipM L 0 := by rw [tip_minM h]; rfl
theorem endM_max {L : List Ent} (h : StMl L) : endE (sortL Ent.lt L) true = tipM L 1 := by rw [tip_maxM h]; rfl
theorem push_sortM {L : List Ent} (x : Ent) : insL Ent.lt (sortL Ent.lt L) x = sortL Ent.lt (pushM L x) := by
  rw [insL_sortL isOrd]
  exact sortL_eq isOrd (pushM_perm L x).symm
def HeapT (T : Nat) (H : AH) (q : Nat) (L : List Ent) (S : List Nat) : Prop :=
  ∃ v, H.blk q = some (.row [v] T true) ∧ Own H T_key_Entry 4 v L.length (cellsE L) S ∧ q ∉ S ∧ L.length ≤ 1000000
theorem heapT_i {H : AH} {q : Nat} {L : List Ent} {S : List Nat} : HeapT T_iheap_Heap H q L S ↔ HeapAt H q L S := Iff.rfl
theorem heapT_m {H : AH} {q : Nat} {L : List Ent} {S : List Nat} : HeapT T_mmheap_Heap H q L S ↔ HeapM H q L S := Iff.rfl
theorem HeapT.lt {T : Nat} {H : AH} {q : Nat} {L : List Ent} {S : List Nat} (h : HeapT T H q L S) (hw : WF H) : ∀ b ∈ q :: S, b < H.next := by
  obtain ⟨v, h1, h2, _⟩ := h
  intro b hb
  rcases List.mem_cons.1 hb with rfl | hb
  · exact hw.lt h1
  · exact h2.lt hw b hb
theorem HeapT.keep {T : Nat} {H H' : AH} {q : Nat} {L : List Ent} {S : List Nat} (h : HeapT T H q L S) (hk : ∀ b ∈ q :: S, H'.blk b = H.blk b) : HeapT T H' q L S := by
  obtain ⟨v, h1, h2, h3, h4⟩ := h
  exact ⟨v, by rw [hk q (by simp), h1], h2.keep fun b hb => hk b (by simp [hb]), h3, h4⟩
theorem HeapT.read {T : Nat} {H : AH} {q : Nat} {L : List Ent} {S : List Nat} (h : HeapT T H q L S) : HeapR H q L := by
  obtain ⟨v, h1, h2, h3, h4⟩ := h
  exact ⟨v, AH.cells_of h1, h2.vw fun _ _ => trivial, h4⟩
end Go.Proofs.Ytgecnmjohhmfjaa
