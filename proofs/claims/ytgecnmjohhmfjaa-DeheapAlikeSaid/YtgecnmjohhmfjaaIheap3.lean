/-
  Contracts of package iheap (3): Push, tip.
-/
import Derived.Test.YtgecnmjohhmfjaaIheap2
set_option maxRecDepth 100000
set_option linter.unusedSimpArgs false
set_option linter.unusedVariables false
namespace Go.Proofs.Ytgecnmjohhmfjaa
open Go Go.Abs
def aboveN (i e : Nat) : Nat := (i / 2 - 1) / 2 * 2 + e
def pushL (L : List Ent) (x : Ent) : List Ent :=
  let M := L ++ [x]
  let i := L.length
  if i % 2 = 1 ∧ ltAt M i (i - 1) = true then riseL 0 (i - 1) (swapL M i (i - 1))
  else if i % 2 = 0 ∧ 2 ≤ i ∧ ltAt M (aboveN i 1) i = true then riseL 1 i M
  else riseL (i % 2) i M
def HeapN (H0 : AH) (q : Nat) (S : List Nat) (L : List Ent) (H' : AH) : Prop := ∃ S', HeapAt H' q L S' ∧ Keep (q :: S) H0 H' ∧ ∀ b ∈ S', b ∈ S ∨ H0.next ≤ b
theorem HeapN.step {H0 H H' : AH} {q : Nat} {S S' : List Nat} {L : List Ent} (hq : q < H0.next) (hS : ∀ b ∈ S', b ∈ S ∨ H0.next ≤ b) (hk : Keep (q :: S) H0 H) (h : HeapAt H' q L S') (k : Keep S' H H') : HeapN H0 q S L H' :=
  ⟨S', h, hk.trans k fun b hb hlt => by
    rcases hS b hb with h | h
    · simp [h]
    · omega, hS⟩
theorem Push_spec {H : AH} {q : Nat} {L : List Ent} {S : List Nat} (h : HeapAt H q L S) (x : Ent) (hl : L.length < 100000) : AFn Try.prog F_iheap_Heap_Push [.pointer (some ⟨q, 0, none⟩), x.val] H fun u H' => HeapN H q S (pushL L x) H' := by
  obtain ⟨v, h1, h2, h3, h4⟩ := id h
  obtain ⟨a, c, rfl⟩ := h2.slice
  refine AFn.enter mixed ir_iheap_Heap_Push_eq (by simp [ir_iheap_Heap_Push]) fun hw => ?_
  have hqn := hw.lt h1
  have hSn := h2.lt hw
  have hw1 : WF (H.alloc (.row [.int .i64 x.b, .int .i64 x.d, .int .i64 x.s, .int .i64 x.i] T_key_Entry true)) := hw.alloc
  obtain ⟨a', c', H5, S5, p1, p2, p3, p4, p5⟩ := (h2.alloc hw (B := .row [.int .i64 x.b, .int .i64 x.d, .int .i64 x.s, .int .i64 x.i] T_key_Entry true)).push hw1 T_key_Entry 32 1 [.int .i64 x.b, .int .i64 x.d, .int .i64 x.s, .int .i64 x.i] (by simp) (by omega) (by omega)
  have hq5 : H5.blk q = some (.row [.slice a L.length c] T_iheap_Heap true) := by rw [p3.blk q (by simp; omega) h3, AH.alloc_blk_ne (by omega), h1]
  have hq5S : q ∉ S5 := fun hc => by
    rcases p5 q hc with h | h
    · exact h3 h
    · simp at h; omega
  have hM : HeapAt (H5.set q (.row [.slice a' (L.length + 1) c'] T_iheap_Heap true)) q (L ++ [x]) S5 := by
    refine ⟨_, AH.set_blk_same, ?_, hq5S, by simp; omega⟩
    rw [cellsE_append]
    simp only [List.length_append, List.length_cons, List.length_nil]
    exact p2.keep fun b hb => AH.set_blk_ne fun hc => hq5S (hc ▸ hb)
  have hk5 : Keep (q :: S) H (H5.set q (.row [.slice a' (L.length + 1) c'] T_iheap_Heap true)) := by
    refine ((Keep.alloc (S := q :: S)).trans' ((p3.mono fun b hb _ => by simp [hb]) : Keep (q :: S) _ H5)).trans' (.set (by simp))
  have hS5 : ∀ b ∈ S5, b ∈ S ∨ H.next ≤ b := fun b hb => by
    rcases p5 b hb with h | h
    · exact .inl h
    · right; simp at h; omega
  have w6 : WF (H5.set q (.row [.slice a' (L.length + 1) c'] T_iheap_Heap true)) := p4.set (p4.lt hq5)
  have hr : (L.length : Int).tmod 2 = ((L.length % 2 : Nat) : Int) := by rw [Int.tmod_eq_emod_of_nonneg (by omega)]; norm_cast
  have hr2 : L.length % 2 = 0 ∨ L.length % 2 = 1 := by omega
  simp (disch := omega) [-getElem?_pos, if_pos, if_neg, decide_eq_true, decide_eq_false, ir_iheap_Heap_Push, AH.cells_of h1, elemsA, cut, p1, hq5, writeA, IntWalk.i64_in, hr]
  generalize hH6 : H5.set q (.row [.slice a' (L.length + 1) c'] T_iheap_Heap true) = H6 at *
  have hlen : (L ++ [x]).length = L.length + 1 := by simp
  have hP : pushL L x = (if L.length % 2 = 1 ∧ ltAt (L ++ [x]) L.length (L.length - 1) = true then riseL 0 (L.length - 1) (swapL (L ++ [x]) L.length (L.length - 1))
    else if L.length % 2 = 0 ∧ 2 ≤ L.length ∧ ltAt (L ++ [x]) (aboveN L.length 1) L.length = true then riseL 1 L.length (L ++ [x]) else riseL (L.length % 2) L.length (L ++ [x])) := rfl
  rw [hP]
  clear hP p1 p2 p3 p4 p5 hq5 hw1
  generalize L ++ [x] = M at *
  generalize hn : L.length = n at *
  obtain ⟨m, hm⟩ : ∃ m, m = n - 1 := ⟨_, rfl⟩
  rw [← hm]
  rcases hr2 with hz | hz
  · have hzi : (n : Int) % 2 = 0 := by omega
    rw [hz]
    by_cases h2 : 2 ≤ n
    · obtain ⟨up, hup⟩ : ∃ up, up = aboveN n 1 := ⟨_, rfl⟩
      have hlt : up < n := by
        have hu : up = (n / 2 - 1) / 2 * 2 + 1 := hup
        clear hup
        omega
      simp (disch := omega) [-getElem?_pos, if_pos, if_neg, decide_eq_true, decide_eq_false, hzi, h2, show (2:Int) ≤ (n:Int) by omega]
      refine AFn.pure (above_spec (e := 1) h2 (by omega) (show 1 < 2 by decide)) ?_
      rw [show (n / 2 - 1) / 2 * 2 + 1 = up from hup.symm, ← hup]
      clear hup
      simp (disch := omega) [-getElem?_pos, if_pos, if_neg, decide_eq_true, decide_eq_false, ]
      refine AFn.pure (lessAt_spec hM.read (show up < M.length by omega) (show n < M.length by omega)) ?_
      cases hx : ltAt M up n with
      | false =>
        simp (disch := omega) [-getElem?_pos, if_pos, if_neg, decide_eq_true, decide_eq_false, hz]
        refine (rise_spec hM (show n < M.length by omega) (show 0 < 2 by omega)).mono' fun u H3 w3 ⟨h3, k3⟩ => ?_
        simp (disch := omega) [-getElem?_pos, if_pos, if_neg, decide_eq_true, decide_eq_false, ]
        exact .step hqn hS5 hk5 h3 k3
      | true =>
        simp (disch := omega) [-getElem?_pos, if_pos, if_neg, decide_eq_true, decide_eq_false, hz]
        refine (rise_spec hM (show n < M.length by omega) (show 1 < 2 by omega)).mono' fun u H3 w3 ⟨h3, k3⟩ => ?_
        simp (disch := omega) [-getElem?_pos, if_pos, if_neg, decide_eq_true, decide_eq_false, ]
        exact .step hqn hS5 hk5 h3 k3
    · simp (disch := omega) [-getElem?_pos, if_pos, if_neg, decide_eq_true, decide_eq_false, hzi, h2, show ¬ (2:Int) ≤ (n:Int) by omega]
      refine (rise_spec hM (show n < M.length by omega) (show 0 < 2 by omega)).mono' fun u H3 w3 ⟨h3, k3⟩ => ?_
      simp (disch := omega) [-getElem?_pos, if_pos, if_neg, decide_eq_true, decide_eq_false, ]
      exact .step hqn hS5 hk5 h3 k3
  · have hzi : (n : Int) % 2 = 1 := by omega
    have hmi : (n : Int) - 1 = (m : Int) := by omega
    rw [hz]
    simp (disch := omega) [-getElem?_pos, if_pos, if_neg, decide_eq_true, decide_eq_false, hzi, hmi, IntWalk.i64_in]
    refine AFn.pure (lessAt_spec hM.read (show n < M.length by omega) (show m < M.length by omega)) ?_
    cases hx : ltAt M n m with
    | false =>
      simp (disch := omega) [-getElem?_pos, if_pos, if_neg, decide_eq_true, decide_eq_false, hz, hzi]
      refine (rise_spec hM (show n < M.length by omega) (show 1 < 2 by omega)).mono' fun u H3 w3 ⟨h3, k3⟩ => ?_
      simp (disch := omega) [-getElem?_pos, if_pos, if_neg, decide_eq_true, decide_eq_false, ]
      exact .step hqn hS5 hk5 h3 k3
    | true =>
      simp (disch := omega) [-getElem?_pos, if_pos, if_neg, decide_eq_true, decide_eq_false, hz, hzi, hmi, IntWalk.i64_in]
      refine (swap_spec hM (show n < M.length by omega) (show m < M.length by omega)).mono' fun u H2 w2 ⟨h2, k2⟩ => ?_
      simp (disch := omega) [-getElem?_pos, if_pos, if_neg, decide_eq_true, decide_eq_false, hz, hzi, hmi, IntWalk.i64_in]
      refine (rise_spec h2 (show m < (swapL M n m).length by rw [swapL_length]; omega) (show 0 < 2 by omega)).mono' fun u H3 w3 ⟨h3, k3⟩ => ?_
      simp (disch := omega) [-getElem?_pos, if_pos, if_neg, decide_eq_true, decide_eq_false, ]
      exact .step hqn hS5 hk5 h3 (k2.trans' k3)
end Go.Proofs.Ytgecnmjohhmfjaa
