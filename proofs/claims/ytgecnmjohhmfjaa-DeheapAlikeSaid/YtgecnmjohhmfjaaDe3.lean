/-
  Contracts of package deheap (3): Reverse, Evict, Drop, Sorted, Bulk, New.
-/
import Derived.Test.YtgecnmjohhmfjaaDe2
set_option maxRecDepth 100000
set_option linter.unusedSimpArgs false
set_option linter.unusedVariables false
namespace Go.Proofs.Ytgecnmjohhmfjaa
open Go Go.Abs
theorem getE_ext {L M : List Ent} (hl : L.length = M.length) (h : ∀ p, p < L.length → getE L p = getE M p) : L = M := by
  apply List.ext_getElem hl
  intro i h1 h2
  have := h i h1
  rwa [getE_eq h1, getE_eq h2] at this
theorem getE_rev {L : List Ent} {p : Nat} (h : p < L.length) : getE L.reverse p = getE L (L.length - 1 - p) := by
  rw [getE_eq (by simpa using h), getE_eq (by omega), List.getElem_reverse]
def RvI (H : AH) (v : Value) (S : List Nat) (L : List Ent) (m : Nat) (env : Env) (H' : AH) : Prop :=
  ∃ i M, 2 * i ≤ L.length + 1 ∧ m = L.length - i ∧ env 0 = some v ∧ env 2 = some (.int .i64 (i : Nat)) ∧ env 3 = some (.int .i64 ((L.length : Int) - 1 - i)) ∧ WF H' ∧ Keep S H H' ∧ M.length = L.length ∧ DatAt H' v M S ∧
    ∀ p, p < L.length → getE M p = if p < i ∨ L.length ≤ p + i then getE L (L.length - 1 - p) else getE L p
def RvQ (H : AH) (v : Value) (S : List Nat) (L : List Ent) (ex : AExit) (env : Env) (H' : AH) : Prop := ex = .exit 0 ∧ DatAt H' v L.reverse S ∧ Keep S H H'
theorem Reverse_spec {H : AH} {v : Value} {L : List Ent} {S : List Nat} (h : DatAt H v L S) : AFn Try.prog F_slices_Reverse_Lkey_Entry_key_Entry [v] H fun u H' => DatAt H' v L.reverse S ∧ Keep S H H' := by
  have hl := h.2
  refine AFn.enter mixed ir_slices_Reverse_Lkey_Entry_key_Entry_eq (by simp [ir_slices_Reverse_Lkey_Entry_key_Entry]) fun hw => ?_
  obtain ⟨sa, sc, rfl⟩ := h.1.slice
  simp (disch := omega) [-getElem?_pos, if_pos, if_neg, decide_eq_true, decide_eq_false, ir_slices_Reverse_Lkey_Entry_key_Entry, IntWalk.i64_in]
  refine wpC_use (loop_rule (RvI H (.slice sa L.length sc) S L) (Q := RvQ H (.slice sa L.length sc) S L) ?_ (j := L.length) ⟨0, L, by omega, by omega, by simp, by simp, by simp, hw, .refl, rfl, h, fun p hp => by rw [if_neg (by omega)]⟩) ?_
  · rintro m env H' ⟨i, M, hi, hm, e0, e2, e3, w', k', hMl, hD, hall⟩
    by_cases hij : 2 * i + 1 < L.length
    · obtain ⟨j, hj⟩ : ∃ j, j = L.length - 1 - i := ⟨_, rfl⟩
      have hji : (L.length : Int) - 1 - i = (j : Int) := by omega
      rw [hji] at e3
      obtain ⟨bb, off, sp, cap, cs, H1, H2, hv, q1, q2, q3, q4, q5, hD', hk', hw'⟩ := hD.two (i := i) (k := j) (by omega) (by omega)
      rw [hMl] at hv
      cases hv
      have hNl : (swapL M i j).length = M.length := swapL_length _ _ _
      have hsw := getE_swap (L := M) (i := i) (k := j) (by omega) (by omega)
      have hall' : ∀ p, p < L.length → getE (swapL M i j) p = if p < i + 1 ∨ L.length ≤ p + (i + 1) then getE L (L.length - 1 - p) else getE L p := by
        intro p hp
        rw [hsw]
        by_cases h1 : p = i
        · subst h1
          rw [sw_l, hall j (by omega), if_neg (by omega), if_pos (by omega), hj]
        · by_cases h2 : p = j
          · rw [h2, sw_r, hall i (by omega), if_neg (by omega), if_pos (by omega)]
            congr 1; omega
          · rw [sw_o h1 h2, hall p hp]
            by_cases h3 : p < i ∨ L.length ≤ p + i
            · rw [if_pos h3, if_pos (by omega)]
            · rw [if_neg h3, if_neg (by omega)]
      generalize getE M i = x at *
      generalize getE M j = y at *
      simp (disch := omega) [-getElem?_pos, if_pos, if_neg, decide_eq_true, decide_eq_false, ir_slices_Reverse_Lkey_Entry_key_Entry_l0, e0, e2, e3, q1, q2, q3, q4, q5, IntWalk.i64_in]
      exact ⟨L.length - (i + 1), by omega, i + 1, swapL M i j, by omega, by omega, by simp [e0], by simp, by simp; omega, hw' w', k'.trans' hk', by rw [hNl, hMl], hD', hall'⟩
    · simp (disch := omega) [-getElem?_pos, if_pos, if_neg, decide_eq_true, decide_eq_false, ir_slices_Reverse_Lkey_Entry_key_Entry_l0, e0, e2, e3]
      have : M = L.reverse := getE_ext (by simpa using hMl) fun p hp => by
        rw [hall p (by omega), getE_rev (by omega)]
        by_cases h3 : p < i ∨ L.length ≤ p + i
        · rw [if_pos h3]
        · rw [if_neg h3]; congr 1; omega
      rw [this] at hD
      exact ⟨rfl, hD, k'⟩
  · rintro ex env2 H2 ⟨rfl, h1, h2⟩ _
    simp (disch := omega) [-getElem?_pos, if_pos, if_neg, decide_eq_true, decide_eq_false, ]
    exact ⟨h1, h2⟩
theorem DatAt.push {H : AH} {v : Value} {L : List Ent} {S : List Nat} (h : DatAt H v L S) (hw : WF H) (x : Ent) (hl : L.length < 100000) :
    ∃ a' c' H' S', appendA (H.alloc (.row x.cells T_key_Entry true)) T_key_Entry 4 32 v 1 x.cells = some (.slice a' (L.length + 1) c', H') ∧ DatAt H' (.slice a' (L.length + 1) c') (L ++ [x]) S' ∧ Keep S H H' ∧ WF H' ∧ ∀ b ∈ S', b ∈ S ∨ H.next ≤ b := by
  obtain ⟨a', c', H5, S', p1, p2, p3, p4, p5⟩ := h.1.push hw T_key_Entry 32 1 x.cells (by simp [Ent.cells]) (by omega) (by omega)
  refine ⟨a', c', H5, S', p1, ⟨?_, by simp; omega⟩, p3, p4, p5⟩
  rw [List.length_append, cellsE_append]
  simpa [cellsE, Ent.cells] using p2
section
variable {H : AH} {d : Nat} {k : Bool} {most : Int} {M : List Ent} {S : List Nat}
def EvI (H : AH) (d : Nat) (k : Bool) (most : Int) (M : List Ent) (S : List Nat) (N : Nat) (i : Nat) (env : Env) (H' : AH) : Prop :=
  env 0 = some (pV d) ∧ env 12 = some (.int .i64 N) ∧ env 13 = some (.int .i64 i) ∧ WF H' ∧ Keep S H H' ∧ DeH H' d k most (M.take (M.length - i)) S ∧ ∃ out T, env 5 = some out ∧ DatAt H' out (M.reverse.take i) T ∧ ∀ b ∈ T, H.next ≤ b
def EvQ (H : AH) (d : Nat) (k : Bool) (most : Int) (M : List Ent) (S : List Nat) (N : Nat) (e : AExit) (env : Env) (H' : AH) : Prop :=
  e = .exit 0 ∧ WF H' ∧ Keep S H H' ∧ DeH H' d k most (M.take (M.length - N)) S ∧ ∃ out T, env 5 = some out ∧ DatAt H' out (M.reverse.take N) T ∧ ∀ b ∈ T, H.next ≤ b
theorem take_end {M : List Ent} {i : Nat} (h : i < M.length) : endE (M.take (M.length - i)) true = some (getE M (M.length - 1 - i)) ∧ restE (M.take (M.length - i)) true = M.take (M.length - (i + 1)) ∧ M.reverse.take (i + 1) = M.reverse.take i ++ [getE M (M.length - 1 - i)] := by
  have h1 : (M.take (M.length - i)).length = M.length - i := by rw [List.length_take]; omega
  refine ⟨?_, ?_, ?_⟩
  · unfold endE
    rw [if_pos rfl, List.getLast?_eq_getElem?, h1, List.getElem?_take_of_lt (by omega), show M.length - i - 1 = M.length - 1 - i by omega, List.getElem?_eq_getElem (by omega), getE_eq (by omega)]
  · unfold restE
    rw [if_pos rfl, List.dropLast_eq_take, h1, List.take_take]
    congr 1; omega
  · rw [List.take_succ_eq_append_getElem (by simpa using h), ← getE_eq (by simpa using h), getE_rev h]
theorem DEvict_spec (h : DeH H d k most M S) (n : Int) (N : Nat) (hN : (N : Int) = min (max n 0) M.length) : AFn Try.prog F_deheap_Heap_Evict [pV d, .int .i64 n] H fun u H' =>
    DeH H' d k most (M.take (M.length - N)) S ∧ Keep S H H' ∧ ∃ T, DatAt H' u (M.reverse.take N) T ∧ ∀ b ∈ T, H.next ≤ b := by
  have hl := h.len
  refine AFn.enter mixed ir_deheap_Heap_Evict_eq (by simp [ir_deheap_Heap_Evict]) fun hw => ?_
  have hSlt := h.lt hw
  simp (disch := omega) [-getElem?_pos, if_pos, if_neg, decide_eq_true, decide_eq_false, ir_deheap_Heap_Evict]
  refine AFn.pure (DLen_spec h) ?_
  have hmn : (if (M.length : Int) < (if (0 : Int) > n then 0 else n) then (M.length : Int) else (if (0 : Int) > n then 0 else n)) = (N : Int) := by
    split <;> split at * <;> omega
  simp (disch := omega) [-getElem?_pos, if_pos, if_neg, decide_eq_true, decide_eq_false, hmn]
  refine wpC_use (loop_upto N (EvI H d k most M S N) (Q := EvQ H d k most M S N) ⟨by simp, by simp, by simp, hw, .refl, by simpa using h, _, [], by simp; rfl, ⟨by simpa [cellsE] using Own.nil, by simp⟩, by simp⟩ ?_) ?_
  · rintro i env H' hi ⟨e0, e12, e13, w', k', hD, out, T, e5, hO, hT⟩
    have hn := k'.next
    by_cases hin : i < N
    · obtain ⟨t1, t2, t3⟩ := take_end (M := M) (i := i) (by omega)
      simp (disch := omega) [-getElem?_pos, if_pos, if_neg, decide_eq_true, decide_eq_false, ir_deheap_Heap_Evict_l0, e0, e12, e13]
      refine (DPopMax_spec hD).mono' fun u H2 w2 ⟨hu, hD2, k2⟩ => ?_
      subst hu
      rw [t1]
      rw [t2] at hD2
      have hlr : (M.reverse.take i).length = i := by rw [List.length_take, List.length_reverse]; omega
      have hO2 : DatAt H2 out (M.reverse.take i) T := ⟨hO.1.kept w' k2 fun b hb hs => by have := hT b hb; have := hSlt b hs; omega, hO.2⟩
      generalize getE M (M.length - 1 - i) = x at *
      have hn2 := k2.next
      have w3 := WF.alloc w2 (B := .row x.cells T_key_Entry true)
      have k3 : Keep [] H2 (H2.alloc (.row x.cells T_key_Entry true)) := .alloc
      have hO3 : DatAt (H2.alloc (.row x.cells T_key_Entry true)) out (M.reverse.take i) T := ⟨hO2.1.kept w2 k3 (by simp), hO2.2⟩
      have hD3 := hD2.kept w2 k3
      have hc3 : (H2.alloc (.row x.cells T_key_Entry true)).cells H2.next = some x.cells := AH.cells_alloc_new
      have hn3 : (H2.alloc (.row x.cells T_key_Entry true)).next = H2.next + 1 := rfl
      obtain ⟨a', c', H5, T', p1, p2, p3, p4, p5⟩ := hO3.push w3 x (by omega)
      have hcx : cut [Value.int .i64 x.b, .int .i64 x.d, .int .i64 x.s, .int .i64 x.i] 0 4 = some [Value.int .i64 x.b, .int .i64 x.d, .int .i64 x.s, .int .i64 x.i] := rfl
      have hbz : (H2.alloc (.row [.int .i64 0, .int .i64 0, .int .i64 0, .int .i64 0] T_key_Entry true)).blk H2.next = some (.row [.int .i64 0, .int .i64 0, .int .i64 0, .int .i64 0] T_key_Entry true) := by simp
      obtain ⟨oa, oc, rfl⟩ := hO.1.slice
      rw [hlr] at p1 p2
      simp only [Ent.cells] at p1 hc3
      simp (disch := omega) [-getElem?_pos, if_pos, if_neg, decide_eq_true, decide_eq_false, e0, e12, e13, e5, tellV, writeA_row hbz, over, hcx, hlr, elemsA, p1, IntWalk.i64_in]
      have hlt3 := hD3.lt w3
      have hDn : ∀ b ∈ S, b ∉ T := fun b hb ht => by have := hT b ht; have := hSlt b hb; omega
      refine ⟨hin, by simp [e0], by simp [e12], by simp, p4, ?_, hD3.keep fun b hb => p3.blk b (hlt3 b hb) (hDn b hb), _, T', by simp; rfl, by rw [t3]; exact p2, fun b hb => (p5 b hb).elim (hT b) fun h => by omega⟩
      refine ⟨by have := p3.next; omega, fun b hb hs => ?_⟩
      rw [p3.blk b (by omega) (fun ht => by have := hT b ht; omega), k3.blk b (by omega) (by simp), k2.blk b (by omega) hs, k'.blk b hb hs]
    · obtain rfl : i = N := by omega
      simp (disch := omega) [-getElem?_pos, if_pos, if_neg, decide_eq_true, decide_eq_false, ir_deheap_Heap_Evict_l0, e0, e12, e13]
      exact ⟨rfl, w', k', hD, out, T, e5, hO, hT⟩
  · rintro e env2 H2 ⟨rfl, w2, k2, hD, out, T, e5, hO, hT⟩ _
    simp (disch := omega) [-getElem?_pos, if_pos, if_neg, decide_eq_true, decide_eq_false, e5]
    exact ⟨hD, k2, T, hO, hT⟩
end
end Go.Proofs.Ytgecnmjohhmfjaa
