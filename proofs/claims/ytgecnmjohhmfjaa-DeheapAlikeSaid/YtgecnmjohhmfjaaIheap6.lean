/-
  Contracts of package iheap (6): New, List.
-/
import Derived.Test.YtgecnmjohhmfjaaIheap5
set_option maxRecDepth 100000
set_option linter.unusedSimpArgs false
set_option linter.unusedVariables false
namespace Go.Proofs.Ytgecnmjohhmfjaa
open Go Go.Abs
theorem CloneE_spec {p : Nat → Prop} {H : AH} {sl : Value} {n : Nat} {cells : List Value} (h : Vw p H 4 sl n cells) (hn : n ≤ 1000000) :
    AFn Try.prog F_slices_Clone_Lkey_Entry_key_Entry [sl] H fun u H' => ∃ S, Own H' T_key_Entry 4 u n cells S ∧ Keep [] H H' ∧ ∀ b ∈ S, H.next ≤ b := by
  refine AFn.enter mixed ir_slices_Clone_Lkey_Entry_key_Entry_eq (by simp [ir_slices_Clone_Lkey_Entry_key_Entry]) fun hw => ?_
  have hl := h.len
  have main : ∀ (a : Addr) (c : Nat), sl = .slice (some a) n c → wpC Try.prog 8 ir_slices_Clone_Lkey_Entry_key_Entry.code (bodyK ir_slices_Clone_Lkey_Entry_key_Entry.results fun u H' => ∃ S, Own H' T_key_Entry 4 u n cells S ∧ Keep [] H H' ∧ ∀ b ∈ S, H.next ≤ b) (argsEnv 0 [sl]) H := by
    rintro a c rfl
    have helems := (h.kept hw (.alloc (B := .row [] T_key_Entry true))).elems
    have ho : Own (H.alloc (.row [] T_key_Entry true)) T_key_Entry 4 (.slice (some ⟨H.next, 0, none⟩) 0 0) 0 [] [H.next] := .inr ⟨H.next, 0, none, 0, [], rfl, rfl, by simp, by simp, by omega, by simp, .inl rfl⟩
    obtain ⟨v', H', S', q1, q2, q3, q4, q5, q6⟩ := ho.append hw.alloc (bytes := 32) hl (by omega) (by omega)
    simp (disch := omega) [-getElem?_pos, if_pos, if_neg, decide_eq_true, decide_eq_false, ir_slices_Clone_Lkey_Entry_key_Entry, helems, q1]
    refine ⟨S', by simpa using q2, ?_, fun b hb => ?_⟩
    · exact ⟨by have := q4.next; simp at this; omega, fun b hb _ => by rw [q4.blk b (by simp; omega) (by simp; omega), AH.alloc_blk_ne (by omega)]⟩
    · rcases q6 b hb with h | h
      · simp at h; omega
      · simp at h; omega
  rcases h.2 with ⟨rfl, a, c, rfl, ha⟩ | ⟨b, off, sp, cap, cs, rfl, h2, h3, h4, h5⟩
  · cases a with
    | some a => exact main a c rfl
    | none =>
      obtain rfl := ha rfl
      have : cells = [] := by simpa using hl
      subst this
      simp (disch := omega) [-getElem?_pos, if_pos, if_neg, decide_eq_true, decide_eq_false, ir_slices_Clone_Lkey_Entry_key_Entry]
      exact ⟨[], .nil, .refl, by simp⟩
  · exact main _ _ rfl
theorem List_spec {H : AH} {q : Nat} {L : List Ent} (h : HeapR H q L) : AFn Try.prog F_iheap_Heap_List [.pointer (some ⟨q, 0, none⟩)] H fun u H' => ∃ S, Own H' T_key_Entry 4 u L.length (cellsE L) S ∧ Keep [] H H' ∧ ∀ b ∈ S, H.next ≤ b := by
  obtain ⟨v, h1, h2, h3⟩ := h
  refine AFn.enter mixed ir_iheap_Heap_List_eq (by simp [ir_iheap_Heap_List]) fun hw => ?_
  simp (disch := omega) [-getElem?_pos, if_pos, if_neg, decide_eq_true, decide_eq_false, ir_iheap_Heap_List, h1]
  refine (CloneE_spec h2 h3).mono' fun u H2 w2 ⟨S, h4, k4, hS⟩ => ?_
  simp (disch := omega) [-getElem?_pos, if_pos, if_neg, decide_eq_true, decide_eq_false, ]
  exact ⟨S, h4, k4, hS⟩
end Go.Proofs.Ytgecnmjohhmfjaa
