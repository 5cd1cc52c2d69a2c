/-
  package state (7): Answer, Equal.
-/
import Derived.Test.YtlcddhgfkkjhkaaDoorState6
import Derived.Test.YtlcddhgfkkjhkaaDoorOwnAll
set_option maxRecDepth 100000
set_option linter.unusedSimpArgs false
set_option linter.unusedVariables false
namespace Go.Proofs.YtlcddhgfkkjhkaaDoor
open Go Go.Abs
theorem ownI {p : Nat → Prop} {H : AH} {ty : Nat} {v : Value} {l : List Int} {S : List Nat} (h : OwnL p H ty v l S) : OwnL (fun _ => False) H ty v l S := by
  obtain ⟨cells, h1, h2, h3⟩ := h
  exact ⟨cells, h1, fun i hi => h2 i hi, by simp⟩
def onesL (L : List Int) (k : Nat) : List Int := ((List.range k).filter fun i => L.getD i 0 == 1).map fun i => ((i : Nat) : Int)
theorem onesL_succ {L : List Int} {k : Nat} : onesL L (k + 1) = if L.getD k 0 = 1 then onesL L k ++ [(k : Int)] else onesL L k := by
  unfold onesL
  rw [List.range_succ, List.filter_append, List.map_append]
  by_cases h : L.getD k 0 = 1
  · rw [if_pos h]
    have : [k].filter (fun i => L.getD i 0 == 1) = [k] := by rw [List.filter_cons, if_pos (by rw [h]; rfl)]; rfl
    rw [this]; rfl
  · rw [if_neg h]
    have : [k].filter (fun i => L.getD i 0 == 1) = [] := by rw [List.filter_cons, if_neg (by simpa using h)]; rfl
    rw [this]; simp
theorem onesL_len {L : List Int} {k : Nat} : (onesL L k).length ≤ k := by
  unfold onesL
  rw [List.length_map]
  exact Nat.le_trans (List.length_filter_le _ _) (by simp)
def AnI (H : AH) (v : Value) (L : List Int) (k : Nat) (env : Env) (H' : AH) : Prop :=
  env 27 = some v ∧ env 28 = some (.int .i64 L.length) ∧ env 29 = some (.int .i64 k) ∧ WF H' ∧ ∃ ov S, env 6 = some ov ∧ OwnL (fun _ => False) H' T_int ov (onesL L k) S ∧ Keep [] H H' ∧ ∀ b ∈ S, H.next ≤ b
def AnQ (H : AH) (L : List Int) (e : AExit) (env : Env) (H' : AH) : Prop := e = .exit 1 ∧ ∃ ov, env 6 = some ov ∧ NewL H ov (onesL L L.length) H'
theorem answer_l0 {p : Nat → Prop} {H H1 : AH} {v : Value} {L : List Int} (hw : WF H) (hL : SlV p H v L) (hl : L.length ≤ 5000) {env : Env} (h : AnI H v L 0 env H1) : wpC Tryd.prog 42 (.loop ir_state_State_Answer_l0) (AnQ H L) env H1 := by
  refine loop_upto L.length (AnI H v L) (Q := AnQ H L) h ?_
  rintro k env H' hk ⟨e27, e28, e29, w', ov, S, e6, hA, hK, hS⟩
  by_cases hkn : k < L.length
  · obtain ⟨b0, off, sp, cap, cs, hcv, q1, q2⟩ := ints_rd (hL.kept hw hK) (by omega)
    obtain ⟨q3, q4⟩ := q2 k hkn
    subst hcv
    have hgk : L.getD k 0 = L[k] := by rw [List.getD_eq_getElem?_getD, List.getElem?_eq_getElem hkn]; rfl
    have hsu := onesL_succ (L := L) (k := k)
    have hol := onesL_len (L := L) (k := k)
    rw [hgk] at hsu
    generalize L[k] = z at *
    by_cases hz : z = 1
    · have hzT := eq_true hz
      rw [if_pos hz] at hsu
      obtain ⟨oa, oc, rfl⟩ := hA.slice
      obtain ⟨va, vc, H2, S', p1, w2, hA', k2, hS', _⟩ := push_i64 w' hA hK hS (a := (k : Int)) (by unfold I64; omega) (by omega)
      have pE : elemsA (H'.alloc (.row [.int .i64 (k : Int)] T_int true)) 1 (.slice (some ⟨H'.next, 0, none⟩) 1 1) = some [.int .i64 (k : Int)] := elems_one rfl
      rw [← hsu] at hA'
      simp (disch := omega) [-getElem?_pos, if_pos, if_neg, decide_eq_true, decide_eq_false, ir_state_State_Answer_l0, e27, e28, e29, e6, q1, q3, hkn, hzT, pE, p1, IntWalk.i64_in]
      exact ⟨by simp [e27], by simp [e28], by simp, w2, _, S', by simp, hA', k2, hS'⟩
    · have hzF := eq_false hz
      rw [if_neg hz] at hsu
      simp (disch := omega) [-getElem?_pos, if_pos, if_neg, decide_eq_true, decide_eq_false, ir_state_State_Answer_l0, e27, e28, e29, e6, q1, q3, hkn, hzF, IntWalk.i64_in]
      exact ⟨by simp [e27], by simp [e28], by simp, w', ov, S, by simp [e6], by rw [hsu]; exact hA, hK, hS⟩
  · obtain rfl : k = L.length := by omega
    simp (disch := omega) [-getElem?_pos, if_pos, if_neg, decide_eq_true, decide_eq_false, ir_state_State_Answer_l0, e28, e29]
    exact ⟨rfl, ov, e6, S, hA, hK, hS⟩
theorem Answer_spec {H : AH} {v w : Value} {s : StD} {x : InstD} (hs : StV (fun b => b < H.next) H v s) (hx : InstV (fun b => b < H.next) H w x) (hpl : s.path.length ≤ 5000) : AFn Tryd.prog F_state_State_Answer [v, w] H fun u H' => ∃ av, u = .tuple #[av, .bool (x.done s)] ∧ NewL H av (x.answer s) H' := by
  obtain ⟨pv, uv, rfl, s1, s2⟩ := id hs
  obtain ⟨iv, cv, sv, rfl, i1, i2, i3, h1, h2, h3⟩ := id hx
  have hc := SetB_cell s2
  have hcp := s1.cell
  have hcc := h2.cell
  have hci := h1.cell
  have hcs := h3.cell
  obtain ⟨pa, pc, rfl⟩ := s1.slice
  refine AFn.enter mixed ir_state_State_Answer_eq (by simp [ir_state_State_Answer]) fun hw => ?_
  simp (disch := omega) [-getElem?_pos, if_pos, if_neg, decide_eq_true, decide_eq_false, ir_state_State_Answer, hc.1, hcc.1, hci.1, hcs.1, cut6']
  generalize hq : H.next = q at *
  generalize hH1 : AH.alloc (AH.alloc _ _) _ = H1
  have k1 : Keep [] H H1 := by rw [← hH1]; exact .new_alloc .alloc
  have w1 : WF H1 := by rw [← hH1]; exact hw.alloc.alloc
  have n1 : H1.next = q + 2 := by rw [← hH1]; simp [hq]
  have d0 : H1.cells q = some [.slice pa s.path.length pc, .int .i64 s.cost, .int .i64 s.left, .int .i64 s.pos, .int .i64 s.used.length, uv] := by rw [← hH1]; simp [hq]
  have d1 : H1.cells (q + 1) = some [.int .i64 x.kind, .int .i64 x.cap, iv, cv, .int .i64 x.size, sv] := by rw [← hH1]; simp [hq]
  clear hH1
  have hs1 := hs.kept hw k1
  have hx1 := hx.kept hw k1
  have p1 := s1.kept hw k1
  refine AFn.pure (Done_spec hs1.any hx1.any) ?_
  unfold InstD.answer
  have up : ∀ {u : Value} {L : List Int} {H' : AH}, NewL H1 u L H' → NewL H u L H' := fun ⟨S, a, b, c⟩ => ⟨S, a, k1.trans' b, fun z hz => by have := c z hz; omega⟩
  cases hdn : x.done s with
  | false =>
    simp (disch := omega) [-getElem?_pos, if_pos, if_neg, decide_eq_true, decide_eq_false, ]
    exact ⟨[], .nil, k1, by simp⟩
  | true =>
    by_cases hk1 : x.kind = 1
    · have hkT := eq_true hk1
      simp (disch := omega) [-getElem?_pos, if_pos, if_neg, decide_eq_true, decide_eq_false, d0, d1, hkT]
      refine (CloneI_spec p1 (by omega)).mono' fun u H2 w2 hN => ?_
      obtain ⟨S, hA, _⟩ := id hN
      have hcA := hA.cell
      simp (disch := omega) [-getElem?_pos, if_pos, if_neg, decide_eq_true, decide_eq_false, hcA]
      exact up hN
    · have hkF := eq_false hk1
      by_cases hk2 : x.kind = 2
      · have hkT := eq_true hk2
        have ho : OwnL (fun _ => False) (H1.alloc (.row [.int .i64 0] T_int true)) T_int (.slice (some ⟨H1.next, 0, none⟩) 1 1) [(0 : Int)] [H1.next] := by
          obtain ⟨S, a, _⟩ := new_ints (L := [(0 : Int)]) (cs := [.int .i64 0]) rfl w1 (by intro y hy; simp at hy; subst hy; unfold I64; omega) (Keep.refl (H := H1) (S := []))
          obtain ⟨cells, h1, h2, h3⟩ := a
          rcases h1 with ⟨h, _⟩ | ⟨b, off, sp, cap, cs, e, rfl, r⟩
          · cases h
          · cases e; exact ⟨cells, .inr ⟨_, _, _, _, cs, rfl, rfl, r⟩, h2, h3⟩
        have p2 := (p1.kept w1 (.alloc (B := .row [.int .i64 0] T_int true)))
        obtain ⟨cells, va, vc, H3, S', pE, pA, hA', k3, w3, i3'⟩ := ho.pushAll (q := fun b => b < q) w1.alloc p2 8 (fun _ h => h.elim) (fun b hb => by simp; omega) (fun b hb h => by simp at hb; omega) (by simp; omega) (by simp; omega)
        simp only [List.length_cons, List.length_nil, Nat.zero_add, sz_int] at pE pA hA'
        simp (disch := omega) [-getElem?_pos, if_pos, if_neg, decide_eq_true, decide_eq_false, d0, d1, hkF, hkT, pE, pA]
        refine ⟨S', ?_, ?_, fun b hb => ?_⟩
        · exact ownI hA'
        · exact k1.trans' (Keep.alloc.trans k3 fun b hb hlt => by simp at hb; omega)
        · rcases i3' b hb with h | h
          · simp at h; omega
          · simp at h; omega
      · have hk2F := eq_false hk2
        simp (disch := omega) [-getElem?_pos, if_pos, if_neg, decide_eq_true, decide_eq_false, d0, d1, hkF, hk2F]
        refine wpC_use (answer_l0 (p := fun b => b < q) (H := H1) w1 p1 hpl ⟨by simp, by simp, by simp, w1, .slice none 0 0, [], by simp, by simpa [onesL] using OwnL.nil, .refl, by simp⟩) ?_
        rintro e env2 H2 ⟨rfl, ov, e6, hN⟩ hu
        obtain ⟨S, hA, _⟩ := id hN
        have hcA := hA.cell
        simp (disch := omega) [-getElem?_pos, if_pos, if_neg, decide_eq_true, decide_eq_false, e6, hcA]
        exact up hN
theorem Equal_st {H : AH} {v w : Value} {s t : StD} (hs : StV (fun _ => True) H v s) (ht : StV (fun _ => True) H w t) : AFn Tryd.prog F_state_Equal [v, w] H fun u H' => u = .bool (decide (s.path = t.path) && decide (s.cost = t.cost) && decide (s.left = t.left) && decide (s.pos = t.pos) && decide (s.used = t.used)) ∧ H' = H := by
  refine AFn.calm (fun H0 hsm => ?_) rfl
  have hs0 := hs.same hsm
  have ht0 := ht.same hsm
  obtain ⟨pv, uv, rfl, s1, s2⟩ := id hs0
  obtain ⟨qv, wv, rfl, t1, t2⟩ := id ht0
  have hc := SetB_cell s2
  have hcp := s1.cell
  have hc' := SetB_cell t2
  have hcp' := t1.cell
  refine AFn.enter mixed ir_state_Equal_eq (by simp [ir_state_Equal]) fun hw => ?_
  simp (disch := omega) [-getElem?_pos, if_pos, if_neg, decide_eq_true, decide_eq_false, ir_state_Equal, hc.1, hcp.1, hc'.1, hcp'.1]
  generalize hH1 : AH.alloc (AH.alloc _ _) _ = H1
  have k1 : Keep [] H0 H1 := by rw [← hH1]; exact .new_alloc .alloc
  have w1 : WF H1 := by rw [← hH1]; exact hw.alloc.alloc
  have d0 : H1.cells H0.next = some [pv, .int .i64 s.cost, .int .i64 s.left, .int .i64 s.pos, .int .i64 s.used.length, uv] := by rw [← hH1]; simp
  have d1 : H1.cells (H0.next + 1) = some [qv, .int .i64 t.cost, .int .i64 t.left, .int .i64 t.pos, .int .i64 t.used.length, wv] := by rw [← hH1]; simp
  clear hH1
  refine AFn.pure (Equal_spec (s1.kept hw k1) (t1.kept hw k1)) ?_
  have hU := Bs.Equal_spec (SetB_sub s2 (q := fun _ => True) (fun _ h => h) (.kept hw k1)) (SetB_sub t2 (q := fun _ => True) (fun _ h => h) (.kept hw k1))
  generalize s.cost = a1 at *
  generalize t.cost = a2 at *
  generalize s.left = b1 at *
  generalize t.left = b2 at *
  generalize s.pos = c1 at *
  generalize t.pos = c2 at *
  by_cases h1 : s.path = t.path
  · rw [decide_eq_true h1]
    by_cases h2 : a1 = a2
    · rw [decide_eq_true h2]
      by_cases h3 : b1 = b2
      · rw [decide_eq_true h3]
        by_cases h4 : c1 = c2
        · rw [decide_eq_true h4]
          simp (disch := omega) [-getElem?_pos, if_pos, if_neg, decide_eq_true, decide_eq_false, d0, d1, eq_true h2, eq_true h3, eq_true h4, cut42]
          refine AFn.pure hU ?_
          simp (disch := omega) [-getElem?_pos, if_pos, if_neg, decide_eq_true, decide_eq_false, ]
        · rw [decide_eq_false h4]
          simp (disch := omega) [-getElem?_pos, if_pos, if_neg, decide_eq_true, decide_eq_false, d0, d1, eq_true h2, eq_true h3, eq_false h4]
      · rw [decide_eq_false h3]
        simp (disch := omega) [-getElem?_pos, if_pos, if_neg, decide_eq_true, decide_eq_false, d0, d1, eq_true h2, eq_false h3]
    · rw [decide_eq_false h2]
      simp (disch := omega) [-getElem?_pos, if_pos, if_neg, decide_eq_true, decide_eq_false, d0, d1, eq_false h2]
  · rw [decide_eq_false h1]
    simp (disch := omega) [-getElem?_pos, if_pos, if_neg, decide_eq_true, decide_eq_false, ]
end Go.Proofs.YtlcddhgfkkjhkaaDoor
