/-
  Contracts of package iheap (4): tip, sink.
-/
import Derived.Test.YtgecnmjohhmfjaaIheap3
set_option maxRecDepth 100000
set_option linter.unusedSimpArgs false
set_option linter.unusedVariables false
namespace Go.Proofs.Ytgecnmjohhmfjaa
open Go Go.Abs
@[simp] theorem guardK_un {P : Program} {dr : Bool} {K : Env → AH → Prop} {rest : List AOper} {env : Env} {H : AH} {d : Option Nat} {op : IOp} {b : Bool} : guardK P dr K rest env H d op b (some undef) = wpO P dr K rest (put env d undef) H := by simp [guardK, undef]
def tellV : Option Ent → Value
  | some x => .tuple #[x.val, .bool true]
  | none => .tuple #[.agg #[.int .i64 0, .int .i64 0, .int .i64 0, .int .i64 0], .bool false]
def tipO (L : List Ent) (e : Nat) : Option Ent := L[atN L.length 0 e]?
theorem atN_lt {n k e : Nat} (h : 2 * k < n) : atN n k e < n := by unfold atN secondN; split <;> omega
theorem HeapR.kept {H H' : AH} {q : Nat} {L : List Ent} (h : HeapR H q L) (hw : WF H) (hk : Keep [] H H') : HeapR H' q L := by
  obtain ⟨v, h1, h2, h3⟩ := h
  exact ⟨v, cells_kept hw hk h1, h2.kept hw hk, h3⟩
theorem tip_spec {H : AH} {q : Nat} {L : List Ent} (h : HeapR H q L) {e : Nat} (he : e < 2) : AFn Try.prog F_iheap_Heap_tip [.pointer (some ⟨q, 0, none⟩), .int .i64 e] H fun u H' => u = tellV (tipO L e) ∧ Keep [] H H' := by
  have hln := h.len
  refine AFn.enter mixed ir_iheap_Heap_tip_eq (by simp [ir_iheap_Heap_tip]) fun hw => ?_
  have hk : Keep [] H (H.alloc (.row [.int .i64 0, .int .i64 0, .int .i64 0, .int .i64 0] T_key_Entry true)) := .alloc
  have h' := h.kept hw hk
  have hb : (H.alloc (.row [.int .i64 0, .int .i64 0, .int .i64 0, .int .i64 0] T_key_Entry true)).blk H.next = some (.row [.int .i64 0, .int .i64 0, .int .i64 0, .int .i64 0] T_key_Entry true) := by simp
  simp (disch := omega) [-getElem?_pos, if_pos, if_neg, decide_eq_true, decide_eq_false, ir_iheap_Heap_tip]
  refine AFn.pure (Len_spec h') ?_
  by_cases h0 : L.length = 0
  · have hT : tipO L e = none := by unfold tipO; rw [List.getElem?_eq_none (by omega)]
    rw [hT]
    simp (disch := omega) [-getElem?_pos, if_pos, if_neg, decide_eq_true, decide_eq_false, h0, writeA_row hb, over]
    refine ⟨rfl, ?_⟩
    first | exact hk | exact .alloc
  · have hA : atN L.length 0 e < L.length := atN_lt (by omega)
    obtain ⟨v, h1, h2, h3⟩ := id h'
    obtain ⟨b, off, sp, cap, cs, rfl, h4, h5⟩ := entries_at h2 (by omega)
    have g1 := h5 _ hA
    have hT : tipO L e = some L[atN L.length 0 e] := by unfold tipO; rw [List.getElem?_eq_getElem hA]
    rw [hT]
    generalize L[atN L.length 0 e] = x at *
    simp (disch := omega) [-getElem?_pos, if_pos, if_neg, decide_eq_true, decide_eq_false, h0, h1, show ¬ ((L.length : Int) = 0) by omega]
    refine AFnD.of (at_spec (k := 0) h' (by omega) (by omega) he) ?_
    generalize atN L.length 0 e = i at *
    simp (disch := omega) [-getElem?_pos, if_pos, if_neg, decide_eq_true, decide_eq_false, h1, h4, g1, Ent.cells, writeA_row hb, over]
    refine ⟨rfl, ?_⟩
    first | exact hk | exact .alloc
def bestI (L : List Ent) (k e : Nat) : Nat → Option Nat
  | 0 => none
  | j + 1 => if 2 * (2 * k + 1 + j) < L.length ∧ (∀ b, bestI L k e j = some b → beatsL L (2 * k + 1 + j) b e = true) then some (2 * k + 1 + j) else bestI L k e j
def optV (o : Option Nat) : Int := match o with
  | none => -1
  | some b => (b : Int)
theorem bestI_some {L : List Ent} {k e : Nat} : ∀ {j b : Nat}, bestI L k e j = some b → 2 * b < L.length ∧ 2 * k + 1 ≤ b ∧ b < 2 * k + 1 + j := by
  intro j
  induction j with
  | zero => intro b h; simp [bestI] at h
  | succ j ih =>
    intro b h
    unfold bestI at h
    split at h
    · rename_i hc
      simp at h
      omega
    · have := ih h
      omega
theorem pairL_length (L : List Ent) (k : Nat) : (pairL L k).length = L.length := by unfold pairL; split <;> simp [swapL_length]
def sinkL (e : Nat) (k : Nat) (L : List Ent) : List Ent :=
  match h : bestI (pairL L k) k e 2 with
  | none => pairL L k
  | some b => if beatsL (pairL L k) b k e = true then sinkL e b (swapL (pairL L k) (atN L.length b e) (atN L.length k e)) else pairL L k
termination_by L.length - k
decreasing_by
  have h1 := bestI_some h
  rw [pairL_length] at h1
  rw [swapL_length, pairL_length]
  omega
def SinkC (H : AH) (q k e : Nat) (L : List Ent) (j : Nat) (env : Env) (H' : AH) : Prop :=
  env 0 = some (.pointer (some ⟨q, 0, none⟩)) ∧ env 1 = some (.int .i64 e) ∧ env 4 = some (.int .i64 (k : Nat)) ∧ env 5 = some (.int .i64 (optV (bestI L k e j))) ∧ env 17 = some (.agg #[.int .i64 (2 * (k : Int) + 1), .int .i64 (2 * (k : Int) + 2)]) ∧ env 18 = some (.int .i64 (j : Nat)) ∧ H' = H
def SinkI (H : AH) (q e : Nat) (L0 : List Ent) (S : List Nat) (m : Nat) (env : Env) (H' : AH) : Prop :=
  ∃ k L, m = L.length - k ∧ env 0 = some (.pointer (some ⟨q, 0, none⟩)) ∧ env 1 = some (.int .i64 e) ∧ env 4 = some (.int .i64 (k : Nat)) ∧ WF H' ∧ Keep S H H' ∧ 2 * k < L.length ∧ HeapAt H' q L S ∧ sinkL e 0 L0 = sinkL e k L
theorem sinkL_none {L : List Ent} {k e : Nat} (h : bestI (pairL L k) k e 2 = none) : sinkL e k L = pairL L k := by
  rw [sinkL.eq_def]; split <;> simp_all
theorem sinkL_lose {L : List Ent} {k e b : Nat} (h : bestI (pairL L k) k e 2 = some b) (hb : beatsL (pairL L k) b k e = false) : sinkL e k L = pairL L k := by
  rw [sinkL.eq_def]; split <;> simp_all
theorem sinkL_win {L : List Ent} {k e b : Nat} (h : bestI (pairL L k) k e 2 = some b) (hb : beatsL (pairL L k) b k e = true) : sinkL e k L = sinkL e b (swapL (pairL L k) (atN L.length b e) (atN L.length k e)) := by
  rw [sinkL.eq_def]; split <;> simp_all
theorem sinkC_spec {H : AH} {q k e : Nat} {N : List Ent} (h : HeapR H q N) (he : e < 2) (hk : 2 * k < N.length) {j : Nat} {env : Env} {H' : AH} (hj : j ≤ 2) (hI : SinkC H q k e N j env H') :
    wpC Try.prog 63 ir_iheap_Heap_sink_l0 (roundsK j 2 (SinkC H q k e N) fun ex env H' => ex = .exit 2 ∧ SinkC H q k e N 2 env H') env H' := by
  obtain ⟨f0, f1, f4, f5, f17, f18, rfl⟩ := hI
  have hl := h.len
  obtain ⟨v, h1, h2, h3⟩ := id h
  obtain ⟨a, cap, rfl⟩ := h2.slice
  by_cases hjl : j < 2
  · obtain ⟨c, hc⟩ : ∃ c, c = 2 * k + 1 + j := ⟨_, rfl⟩
    have hs : bestI N k e (j + 1) = if 2 * c < N.length ∧ (∀ b, bestI N k e j = some b → beatsL N c b e = true) then some c else bestI N k e j := by rw [hc]; rfl
    have hx : ∃ x y : Int, env 17 = some (.agg #[.int .i64 x, .int .i64 y]) ∧ (if j = 0 then x else y) = c := ⟨_, _, f17, by split <;> omega⟩
    obtain ⟨x, y, f17', hxy⟩ := hx
    have hg : ∀ b, bestI N k e j = some b → 2 * b < N.length := fun b hb => (bestI_some hb).1
    by_cases hcl : 2 * c < N.length
    · cases hb : bestI N k e j with
      | none =>
        rw [hb] at hs f5
        rcases (show j = 0 ∨ j = 1 by omega) with rfl | rfl
        · simp [hcl] at hxy hs
          simp (disch := omega) [-getElem?_pos, if_pos, if_neg, decide_eq_true, decide_eq_false, ir_iheap_Heap_sink_l0, f0, f1, f4, f5, f17', f18, h1, hxy, optV, IntWalk.i64_in, show (2:Int) * (c:Int) < N.length by omega]
          exact ⟨by simp [f0], by simp [f1], by simp [f4], by simp [hs, optV, f5], by simp [f17], by simp, rfl⟩
        · simp [hcl] at hxy hs
          simp (disch := omega) [-getElem?_pos, if_pos, if_neg, decide_eq_true, decide_eq_false, ir_iheap_Heap_sink_l0, f0, f1, f4, f5, f17', f18, h1, hxy, optV, IntWalk.i64_in, show (2:Int) * (c:Int) < N.length by omega]
          exact ⟨by simp [f0], by simp [f1], by simp [f4], by simp [hs, optV, f5], by simp [f17], by simp, rfl⟩
      | some b =>
        have hgb := hg b hb
        rw [hb] at hs f5
        have hj1 : j = 1 := by
          rcases (show j = 0 ∨ j = 1 by omega) with rfl | rfl
          · simp [bestI] at hb
          · rfl
        subst hj1
        simp at hxy
        simp (disch := omega) [-getElem?_pos, if_pos, if_neg, decide_eq_true, decide_eq_false, ir_iheap_Heap_sink_l0, f0, f1, f4, f5, f17', f18, h1, hxy, optV, IntWalk.i64_in, show (2:Int) * (c:Int) < N.length by omega, show ¬ ((b:Int) < 0) by omega]
        refine AFn.pure (beats_spec h hcl hgb he) ?_
        cases hx : beatsL N c b e with
        | true =>
          simp [hcl, hx] at hs
          simp (disch := omega) [-getElem?_pos, if_pos, if_neg, decide_eq_true, decide_eq_false, f0, f1, f4, f5, f18, IntWalk.i64_in]
          exact ⟨by simp [f0], by simp [f1], by simp [f4], by simp [hs, optV, f5], by simp [f17], by simp, rfl⟩
        | false =>
          simp [hcl, hx] at hs
          simp (disch := omega) [-getElem?_pos, if_pos, if_neg, decide_eq_true, decide_eq_false, f0, f1, f4, f5, f18, IntWalk.i64_in]
          exact ⟨by simp [f0], by simp [f1], by simp [f4], by simp [hs, optV, f5], by simp [f17], by simp, rfl⟩
    · have hs2 : bestI N k e (j + 1) = bestI N k e j := by rw [hs, if_neg (by omega)]
      clear hs
      rcases (show j = 0 ∨ j = 1 by omega) with rfl | rfl
      · simp at hxy
        simp (disch := omega) [-getElem?_pos, if_pos, if_neg, decide_eq_true, decide_eq_false, ir_iheap_Heap_sink_l0, f0, f1, f4, f5, f17', f18, h1, hxy, IntWalk.i64_in, show ¬ (2:Int) * (c:Int) < N.length by omega]
        exact ⟨by simp [f0], by simp [f1], by simp [f4], by rw [show bestI N k e 1 = bestI N k e 0 from hs2]; simp [f5], by simp [f17], by simp, rfl⟩
      · simp at hxy
        simp (disch := omega) [-getElem?_pos, if_pos, if_neg, decide_eq_true, decide_eq_false, ir_iheap_Heap_sink_l0, f0, f1, f4, f5, f17', f18, h1, hxy, IntWalk.i64_in, show ¬ (2:Int) * (c:Int) < N.length by omega]
        exact ⟨by simp [f0], by simp [f1], by simp [f4], by rw [show bestI N k e 2 = bestI N k e 1 from hs2]; simp [f5], by simp [f17], by simp, rfl⟩
  · have hj2 : j = 2 := by omega
    subst hj2
    simp (disch := omega) [-getElem?_pos, if_pos, if_neg, decide_eq_true, decide_eq_false, ir_iheap_Heap_sink_l0, f18]
    exact ⟨f0, f1, f4, f5, f17, f18, rfl⟩
theorem sink_spec {H : AH} {q : Nat} {L : List Ent} {S : List Nat} (h : HeapAt H q L S) {e : Nat} (h0 : 0 < L.length) (he : e < 2) : AFn Try.prog F_iheap_Heap_sink [.pointer (some ⟨q, 0, none⟩), .int .i64 e] H fun u H' => HeapAt H' q (sinkL e 0 L) S ∧ Keep S H H' := by
  refine AFn.enter mixed ir_iheap_Heap_sink_eq (by simp [ir_iheap_Heap_sink]) fun hw => ?_
  simp (disch := omega) [-getElem?_pos, if_pos, if_neg, decide_eq_true, decide_eq_false, ir_iheap_Heap_sink]
  refine wpC_use (loop_rule (SinkI H q e L S) (Q := fun ex env H' => ex = .ret ∧ HeapAt H' q (sinkL e 0 L) S ∧ Keep S H H') ?_ (j := L.length) ⟨0, L, by simp, by simp, by simp, by simp, hw, .refl, h0, h, rfl⟩) fun ex env2 H2 ⟨hex, hq⟩ _ => ?_
  · rintro j env H1 ⟨k, M, hj, e0, e1, e4, w1, k1, hk, hM, hU⟩
    have hMl : M.length ≤ 1000000 := by obtain ⟨_, _, _, _, h4⟩ := hM; exact h4
    have s1 := @sinkL_none M k e
    have s2 := @sinkL_lose M k e
    have s3 := @sinkL_win M k e
    simp (disch := omega) [-getElem?_pos, if_pos, if_neg, decide_eq_true, decide_eq_false, ir_iheap_Heap_sink_l1, e0, e1, e4]
    refine (pair_spec hM hk).mono' fun u H2 w2 ⟨h2, k2⟩ => ?_
    have hN : (pairL M k).length = M.length := pairL_length M k
    rw [← hN] at s3
    generalize pairL M k = N at *
    simp (disch := omega) [-getElem?_pos, if_pos, if_neg, decide_eq_true, decide_eq_false, e0, e1, e4, IntWalk.i64_in]
    refine wpC_use (loop_upto 2 (SinkC H2 q k e N) (Q := fun ex env H' => ex = .exit 2 ∧ SinkC H2 q k e N 2 env H') ⟨by simp [e0], by simp [e1], by simp [e4], by simp [bestI, optV], by simp, by simp, rfl⟩ fun j env H' hj hI => sinkC_spec h2.read he (by omega) hj hI) fun ex env3 H3 ⟨hex, hC⟩ w3 => ?_
    obtain ⟨f0, f1, f4, f5, f17, f18, rfl⟩ := hC
    subst hex
    cases hb : bestI N k e 2 with
    | none =>
      rw [hb] at f5
      rw [s1 hb] at hU
      simp (disch := omega) [-getElem?_pos, if_pos, if_neg, decide_eq_true, decide_eq_false, f0, f1, f4, f5, optV]
      first | exact ⟨by rw [hU]; exact h2, k1.trans' k2⟩ | exact ⟨rfl, by rw [hU]; exact h2, k1.trans' k2⟩
    | some b =>
      obtain ⟨g1, g2, g3⟩ := bestI_some hb
      rw [hb] at f5
      simp (disch := omega) [-getElem?_pos, if_pos, if_neg, decide_eq_true, decide_eq_false, f0, f1, f4, f5, optV, show ¬ ((b:Int) < 0) by omega]
      refine AFn.pure (beats_spec h2.read g1 (show 2 * k < N.length by omega) he) ?_
      cases hx : beatsL N b k e with
      | false =>
        rw [s2 hb hx] at hU
        simp (disch := omega) [-getElem?_pos, if_pos, if_neg, decide_eq_true, decide_eq_false, ]
        first | exact ⟨by rw [hU]; exact h2, k1.trans' k2⟩ | exact ⟨rfl, by rw [hU]; exact h2, k1.trans' k2⟩
      | true =>
        rw [s3 hb hx] at hU
        simp (disch := omega) [-getElem?_pos, if_pos, if_neg, decide_eq_true, decide_eq_false, f0, f1, f4, f5, optV]
        refine AFn.pure (at_spec h2.read (show 0 < N.length by omega) (show b < 1000000 by omega) he) ?_
        have a1 := atN_lt (e := e) g1
        have a2 := atN_lt (n := N.length) (k := k) (e := e) (by omega)
        generalize atN N.length b e = i1 at *
        simp (disch := omega) [-getElem?_pos, if_pos, if_neg, decide_eq_true, decide_eq_false, f0, f1, f4]
        refine AFn.pure (at_spec h2.read (show 0 < N.length by omega) (show k < 1000000 by omega) he) ?_
        generalize atN N.length k e = i2 at *
        simp (disch := omega) [-getElem?_pos, if_pos, if_neg, decide_eq_true, decide_eq_false, f0]
        refine (swap_spec h2 a1 a2).mono' fun u H4 w4 ⟨h4, k4⟩ => ?_
        simp (disch := omega) [-getElem?_pos, if_pos, if_neg, decide_eq_true, decide_eq_false, f0, f1, f5, optV]
        exact ⟨N.length - b, by omega, b, _, by rw [swapL_length], by simp [f0], by simp [f1], by simp, w4, (k1.trans' k2).trans' k4, by rw [swapL_length]; omega, h4, hU⟩
  · subst hex
    simp (disch := omega) [-getElem?_pos, if_pos, if_neg, decide_eq_true, decide_eq_false, ]
    exact hq
end Go.Proofs.Ytgecnmjohhmfjaa
