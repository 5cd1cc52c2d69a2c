/-
  Contracts of package mmheap (3): take, PopMin, PopMax, Min, Max.
-/
import Derived.Test.YtgecnmjohhmfjaaMheapA
import Derived.Test.YtgecnmjohhmfjaaLaw06d
set_option maxRecDepth 100000
set_option linter.unusedSimpArgs false
set_option linter.unusedVariables false
namespace Go.Proofs.Ytgecnmjohhmfjaa
open Go Go.Abs
theorem HeapM.scrap {H H6 : AH} {q b0 : Nat} {L : List Ent} {S : List Nat} {B : Blk} (h : HeapM H6 q L S) (hk : Keep (q :: S) H H6) (hq : q < H.next) (hS : ∀ b ∈ S, b < H.next) (hb : H.next ≤ b0) : HeapM (H6.set b0 B) q L S ∧ Keep (q :: S) H (H6.set b0 B) := by
  obtain ⟨v, h1, h2, h3, h4⟩ := h
  exact ⟨⟨v, by rw [AH.set_blk_ne (by omega), h1], h2.keep fun b hb => AH.set_blk_ne (by have := hS b hb; omega), h3, h4⟩, hk.next, fun a ha hn => by rw [AH.set_blk_ne (by omega)]; exact hk.blk a ha hn⟩
theorem HeapM.lt {H : AH} {q : Nat} {L : List Ent} {S : List Nat} (h : HeapM H q L S) (hw : WF H) : q < H.next ∧ ∀ b ∈ S, b < H.next := by
  obtain ⟨v, h1, h2, _⟩ := h
  exact ⟨hw.lt h1, h2.lt hw⟩
theorem take_specM {H : AH} {q : Nat} {L : List Ent} {S : List Nat} (h : HeapM H q L S) {i : Nat} (hi : i < L.length) : AFn Try.prog F_mmheap_Heap_take [.pointer (some ⟨q, 0, none⟩), .int .i64 i] H fun u H' => u = (getE L i).val ∧ HeapM H' q (takeM i L) S ∧ Keep (q :: S) H H' := by
  have hln := h.read.len
  refine AFn.enter mixed ir_mmheap_Heap_take_eq (by simp [ir_mmheap_Heap_take]) fun hw => ?_
  obtain ⟨hqn, hSn⟩ := h.lt hw
  obtain ⟨v, g1, g2, g3, g4⟩ := id h
  obtain ⟨b, off, sp, cap, cs, rfl, hc, hall⟩ := ents_at (g2.vw (p := fun _ => True) fun _ _ => trivial) (by omega)
  have hbn := cells_lt hw hc
  have e1 := hall i hi
  have hg := getE_eq hi
  generalize getE L i = x at *
  simp only [Ent.cells] at e1
  obtain ⟨m, hm⟩ : ∃ m, m = L.length - 1 := ⟨_, rfl⟩
  have hmi : (L.length : Int) - 1 = (m : Int) := by omega
  simp (disch := omega) [-getElem?_pos, if_pos, if_neg, decide_eq_true, decide_eq_false, ir_mmheap_Heap_take, AH.cells_of g1, hc, e1, hmi, over, writeA, IntWalk.i64_in, Nat.ne_of_lt hqn, Nat.ne_of_lt hbn]
  have hk3 : Keep [] H (((H.alloc zeroB).room 16).set (H.next + 1 + 13) (entB x)) := .new_set (by omega) (.trans' .alloc .room)
  have hw3 : WF (((H.alloc zeroB).room 16).set (H.next + 1 + 13) (entB x)) := (WF.room hw.alloc).set (by simp)
  have hb4 : (((H.alloc zeroB).room 16).set (H.next + 1 + 13) (entB x)).blk H.next = some zeroB := by rw [AH.set_blk_ne (by omega)]; simp
  have hb6 : (((H.alloc zeroB).room 16).set (H.next + 1 + 13) (entB x)).blk (H.next + 1 + 13) = some (entB x) := AH.set_blk_same
  generalize ((H.alloc zeroB).room 16).set (H.next + 1 + 13) (entB x) = H3 at *
  have hn3 : H.next + 14 < H3.next := by have := hw3.lt hb6; omega
  have h3 := h.kept hw hk3
  refine (swap_specM h3 hi (show m < L.length by omega)).mono' fun u H4 w4 ⟨h4, k4⟩ => ?_
  have hb4a : H4.blk H.next = some zeroB := by rw [k4.blk _ (by omega) (fun hc => by have := hSn _ hc; omega)]; exact hb4
  have hb6a : H4.blk (H.next + 1 + 13) = some (entB x) := by rw [k4.blk _ (by omega) (fun hc => by have := hSn _ hc; omega)]; exact hb6
  have hk4 : Keep S H H4 := (hk3.mono fun b hb _ => by simp at hb).trans' k4
  have hl4 : (swapL L i m).length = L.length := swapL_length _ _ _
  have hP : takeM i L = if i < m then downM (parB i) i ((swapL L i m).take m) else (swapL L i m).take m := by unfold takeM; rw [hm]
  rw [hP]
  clear hP
  generalize swapL L i m = M at *
  obtain ⟨v4, p1, p2, p3, p4⟩ := id h4
  clear g1 g2 g3 hc hall e1 hbn
  obtain ⟨b, off, sp, cap, cs, rfl, hS, q1, q2, q3, q4⟩ := p2.pos (by omega)
  have hcap : M.length ≤ cap := by obtain ⟨b', off', sp', cap', cs', hv, _, _, _, _, hh, _⟩ := p2.at (by omega); cases hv; exact hh
  have p2' := p2.first (k := m) (show m ≤ M.length by omega)
  rw [cellsE_take] at p2'
  have hMt : (M.take m).length = m := by rw [List.length_take]; omega
  have hcx : cut [Value.int .i64 x.b, .int .i64 x.d, .int .i64 x.s, .int .i64 x.i] 0 4 = some [Value.int .i64 x.b, .int .i64 x.d, .int .i64 x.s, .int .i64 x.i] := rfl
  rcases q3 with rfl | rfl
  all_goals
    generalize hsl : Value.slice (some ⟨b, off, _⟩) m cap = sl at p2'
    have h5 : HeapM (H4.set q (.row [sl] T_mmheap_Heap true)) q (M.take m) S := by
      refine ⟨sl, AH.set_blk_same, ?_, p3, by omega⟩
      rw [hMt]
      exact p2'.keep fun b hb => AH.set_blk_ne fun hc => p3 (hc ▸ hb)
    have hk5 : Keep (q :: S) H (H4.set q (.row [sl] T_mmheap_Heap true)) := (hk4.mono fun b hb _ => by simp [hb]).trans' (.set (by simp))
    have hb4b : (H4.set q (.row [sl] T_mmheap_Heap true)).blk H.next = some zeroB := by rw [AH.set_blk_ne (by omega)]; exact hb4a
    have hb6b : (H4.set q (.row [sl] T_mmheap_Heap true)).blk (H.next + 1 + 13) = some (entB x) := by rw [AH.set_blk_ne (by omega)]; exact hb6a
    have w5 : WF (H4.set q (.row [sl] T_mmheap_Heap true)) := w4.set (w4.lt p1)
    have hone : one sl = true := (p2'.vw (p := fun _ => True) fun _ _ => trivial).agg.1
    simp (disch := omega) [-getElem?_pos, if_pos, if_neg, decide_eq_true, decide_eq_false, AH.cells_of p1, writeA_row p1, over, IntWalk.i64_in, hsl, hone]
    generalize H4.set q (.row [sl] T_mmheap_Heap true) = H5 at *
    by_cases h2l : i < m
    · simp (disch := omega) [-getElem?_pos, if_pos, if_neg, decide_eq_true, decide_eq_false, h2l, show (i:Int) < (m:Int) by omega]
      refine (down_specM h5 (show i < (M.take m).length by omega)).mono' fun u H6 w6 ⟨h6, k6⟩ => ?_
      have hb4c : H6.blk H.next = some zeroB := by rw [k6.blk _ (w5.lt hb4b) (fun hc => by have := hSn _ hc; omega)]; exact hb4b
      have hb6c : H6.blk (H.next + 1 + 13) = some (entB x) := by rw [k6.blk _ (w5.lt hb6b) (fun hc => by have := hSn _ hc; omega)]; exact hb6b
      simp (disch := omega) [-getElem?_pos, if_pos, if_neg, decide_eq_true, decide_eq_false, AH.cells_of hb6c, hcx, writeA_row hb4c, over]
      exact h6.scrap (hk5.trans' (k6.mono fun b hb _ => by simp [hb])) hqn hSn (Nat.le_refl _)
    · simp (disch := omega) [-getElem?_pos, if_pos, if_neg, decide_eq_true, decide_eq_false, h2l, show ¬ (i:Int) < (m:Int) by omega, AH.cells_of hb6b, hcx, writeA_row hb4b, over]
      exact h5.scrap hk5 hqn hSn (Nat.le_refl _)
end Go.Proofs.Ytgecnmjohhmfjaa
