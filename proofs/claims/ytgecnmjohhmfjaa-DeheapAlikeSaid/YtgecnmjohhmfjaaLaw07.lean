/-
  Layer 7: what the document fixes.
-/
import Derived.Test.YtgecnmjohhmfjaaDe4
set_option maxRecDepth 100000
set_option linter.unusedSimpArgs false
set_option linter.unusedVariables false
namespace Go.Proofs.Ytgecnmjohhmfjaa
open Go Go.Abs
theorem DatAt.ents {H : AH} {v : Value} {L : List Ent} {S : List Nat} (h : DatAt H v L S) : EntsV (fun _ => True) H v L := ⟨h.1.vw fun _ _ => trivial, h.2⟩
theorem DatAt.kept {H H' : AH} {v : Value} {L : List Ent} {S : List Nat} (h : DatAt H v L S) (hw : WF H) (hk : Keep [] H H') : DatAt H' v L S := ⟨h.1.kept hw hk (by simp), h.2⟩
def wkE (i : Nat) : Ent := ⟨[1, 5, 3, 5].getD i 0, 0, 0, i⟩
def wkL : List Ent := [wkE 0, wkE 1, wkE 2, wkE 3]
theorem wk_sort : sortL Ent.lt wkL = [wkE 0, wkE 2, wkE 1, wkE 3] := by decide
def WkI (H : AH) (b : Nat) (i : Nat) (env : Env) (H' : AH) : Prop :=
  H'.cells b = some [.int .i64 1, .int .i64 5, .int .i64 3, .int .i64 5] ∧ env 6 = some (.slice (some ⟨b, 0, none⟩) 4 4) ∧ env 7 = some (.int .i64 4) ∧ env 8 = some (.int .i64 i) ∧ WF H' ∧ Keep [] H H' ∧ ∃ out T, env 1 = some out ∧ DatAt H' out (wkL.take i) T ∧ ∀ c ∈ T, H.next ≤ c
def WkQ (H : AH) (e : AExit) (env : Env) (H' : AH) : Prop := e = .exit 0 ∧ WF H' ∧ Keep [] H H' ∧ ∃ out T, env 1 = some out ∧ DatAt H' out wkL T ∧ ∀ c ∈ T, H.next ≤ c
theorem wakes_l0 {H : AH} {b : Nat} (hb : b < H.next) {env : Env} (h : WkI H b 0 env H) : wpC Try.prog 65 (.loop ir_law07_wakes_l0) (WkQ H) env H := by
  refine loop_upto 4 (WkI H b) (Q := WkQ H) h ?_
  rintro i env H' hi ⟨hc, e6, e7, e8, w', k', out, T, e1, hO, hT⟩
  by_cases hin : i < 4
  · obtain ⟨x, hx⟩ : ∃ x, x = wkE i := ⟨_, rfl⟩
    have hcx : [Value.int .i64 1, .int .i64 5, .int .i64 3, .int .i64 5][i]? = some (.int .i64 x.b) ∧ x.d = 0 ∧ x.s = 0 ∧ x.i = i ∧ wkL.take (i + 1) = wkL.take i ++ [x] ∧ (wkL.take i).length = i := by
      have : i = 0 ∨ i = 1 ∨ i = 2 ∨ i = 3 := by omega
      rcases this with rfl | rfl | rfl | rfl <;> subst hx <;> exact ⟨rfl, rfl, rfl, rfl, rfl, rfl⟩
    obtain ⟨c1, c2, c3, c4, c5, c6⟩ := hcx
    obtain ⟨a', c', H5, T', p1, p2, p3, p4, p5⟩ := hO.push w' x (by omega)
    obtain ⟨oa, oc, rfl⟩ := hO.1.slice
    have hcut : cut x.cells 0 4 = some x.cells := rfl
    simp only [Ent.cells, c2, c3, c4] at p1 hcut
    rw [c6] at p1 p2
    have hn := k'.next
    simp (disch := omega) [-getElem?_pos, if_pos, if_neg, decide_eq_true, decide_eq_false, ir_law07_wakes_l0, e1, e6, e7, e8, hc, c1, c6, elemsA, over, hcut, p1, IntWalk.i64_in]
    refine ⟨hin, cells_keep w' p3 (fun h => by have := hT b h; omega) hc, by simp [e6], by simp [e7], by simp, p4, k'.trans p3 fun c hc hlt => by have := hT c hc; omega, _, T', (by simp; rfl), by rw [c5]; exact p2, fun c hc => (p5 c hc).elim (hT c) fun h => by omega⟩
  · obtain rfl : i = 4 := by omega
    simp (disch := omega) [-getElem?_pos, if_pos, if_neg, decide_eq_true, decide_eq_false, ir_law07_wakes_l0, e7, e8]
    exact ⟨rfl, w', k', out, T, e1, hO, hT⟩
theorem wakes7_spec {H : AH} : AFn Try.prog F_law07_wakes [] H fun u H' => u = .bool true ∧ H' = H := by
  refine AFn.calm (fun H0 hs => ?_) rfl
  refine AFn.enter mixed ir_law07_wakes_eq (by simp [ir_law07_wakes]) fun hw => ?_
  simp (disch := omega) [-getElem?_pos, if_pos, if_neg, decide_eq_true, decide_eq_false, ir_law07_wakes, over]
  generalize hHb : H0.alloc (.row [.int .i64 1, .int .i64 5, .int .i64 3, .int .i64 5] T_int64 true) = Hb
  have kb : Keep [] H0 Hb := by rw [← hHb]; exact .alloc
  have wb : WF Hb := by rw [← hHb]; exact hw.alloc
  have hcb : Hb.cells H0.next = some [.int .i64 1, .int .i64 5, .int .i64 3, .int .i64 5] := by rw [← hHb]; exact AH.cells_alloc_new
  have hnb : Hb.next = H0.next + 1 := by rw [← hHb]; rfl
  clear hHb
  refine wpC_use (wakes_l0 (b := H0.next) (by omega) ⟨hcb, by simp, by simp, by simp, wb, .refl, .slice none 0 0, [], by simp, ⟨by simpa [cellsE] using Own.nil, by simp⟩, by simp⟩) ?_
  rintro e env2 H2 ⟨rfl, w2, k2, out, T, e1, hO, hT⟩ _
  have hl4 : wkL.length = 4 := rfl
  simp (disch := omega) [-getElem?_pos, if_pos, if_neg, decide_eq_true, decide_eq_false, e1]
  refine (Bulk_spec (k := true) (most := 4) hO.ents (by omega) (by simp [wkL]) (by simp [wkL])).mono' fun u H3 w3 ⟨d, S, hu, hD, k3, hS⟩ => ?_
  subst hu
  rw [wk_sort] at hD
  have hO3 := hO.kept w2 k3
  have hTS : ∀ b ∈ S, b ∉ T := fun b hb ht => by have := hS b hb; have := hO.1.lt w2 b ht; omega
  simp (disch := omega) [-getElem?_pos, if_pos, if_neg, decide_eq_true, decide_eq_false, e1]
  refine AFn.pure (DRoom_spec hD (by omega)) ?_
  obtain ⟨b0, off, sp, cap, cs, rfl, q1, q2⟩ := ents_at hO3.ents.1 (by simp [wkL])
  have q3 := q2 0 (by simp [wkL])
  have hw0 : (getE wkL 0).cells = [.int .i64 (wkE 0).b, .int .i64 (wkE 0).d, .int .i64 (wkE 0).s, .int .i64 (wkE 0).i] := rfl
  rw [hw0] at q3
  simp only [Nat.zero_mul, Nat.add_zero] at q3
  simp (disch := omega) [-getElem?_pos, if_pos, if_neg, decide_eq_true, decide_eq_false, e1, q1, q3, hl4]
  refine (DPush_spec hD (by omega) (wkE 0)).mono' fun u H4 w4 hP => ?_
  rcases hP with ⟨_, rfl, S4, hD4, k4, hS4⟩ | ⟨hne, _⟩
  · simp (disch := omega) [-getElem?_pos, if_pos, if_neg, decide_eq_true, decide_eq_false, ]
    refine (DDrop_spec hD4 4).mono' fun u H5 w5 ⟨j, hj, hD5, k5, ⟨T5, hO5, hT5⟩, hall, hjj⟩ => ?_
    have hj2 : j = 2 := by
      simp at hj
      have h0 := hall 0
      have h1 := hall 1
      have e0 : (getE [wkE 0, wkE 2, wkE 1, wkE 3] 0).b = 1 := rfl
      have e1 : (getE [wkE 0, wkE 2, wkE 1, wkE 3] 1).b = 3 := rfl
      have e2 : (getE [wkE 0, wkE 2, wkE 1, wkE 3] 2).b = 5 := rfl
      have e3 : (getE [wkE 0, wkE 2, wkE 1, wkE 3] 3).b = 5 := rfl
      simp only [e0, List.length_cons, List.length_nil] at h0
      simp only [e1, List.length_cons, List.length_nil] at h1
      have : j = 0 ∨ j = 1 ∨ j = 2 ∨ j = 3 ∨ j = 4 := by omega
      rcases this with rfl | rfl | rfl | rfl | rfl
      · have := h0 (by omega) (by omega); omega
      · have := h1 (by omega) (by omega); omega
      · rfl
      · rcases hjj with h | h
        · omega
        · rw [show (3 : Nat) - 1 = 2 from rfl, e2] at h; omega
      · rcases hjj with h | h
        · omega
        · rw [show (4 : Nat) - 1 = 3 from rfl, e3] at h; omega
    subst hj2
    obtain ⟨oa, oc, rfl⟩ := hO5.1.slice
    simp (disch := omega) [-getElem?_pos, if_pos, if_neg, decide_eq_true, decide_eq_false, ]
    refine (DEvict_spec hD5 1 1 (by simp; omega)).mono' fun u H6 w6 ⟨hD6, k6, T6, hO6, hT6⟩ => ?_
    obtain ⟨oa6, oc6, rfl⟩ := hO6.1.slice
    simp (disch := omega) [-getElem?_pos, if_pos, if_neg, decide_eq_true, decide_eq_false, ]
    refine AFn.pure (DLen_spec hD6) ?_
    simp (disch := omega) [-getElem?_pos, if_pos, if_neg, decide_eq_true, decide_eq_false, ]
    refine AFn.pure (DKind_spec hD6) ?_
    simp (disch := omega) [-getElem?_pos, if_pos, if_neg, decide_eq_true, decide_eq_false, kI]
  · exact absurd rfl hne
end Go.Proofs.Ytgecnmjohhmfjaa
