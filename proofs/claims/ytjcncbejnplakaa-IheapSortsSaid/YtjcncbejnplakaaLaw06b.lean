/-
  Law 6 (2): lists of entries; all.
-/
import Derived.Test.YtjcncbejnplakaaLaw06
import Derived.Test.YtjcncbejnplakaaIlawA
set_option maxRecDepth 100000
set_option linter.unusedSimpArgs false
set_option linter.unusedVariables false
namespace Go.Proofs.Ytjcncbejnplakaa
open Go Go.Abs

/-- A slice of entries, to be read. -/
def EntsV (p : Nat → Prop) (H : AH) (v : Value) (L : List Ent) : Prop := Vw p H 4 v L.length (cellsE L) ∧ L.length ≤ 1000000
/-- A new slice of entries. -/
def EntsN (H : AH) (L : List Ent) (u : Value) (H' : AH) : Prop := EntsV (fun b => H.next ≤ b) H' u L ∧ Keep [] H H'

theorem EntsV.kept {p : Nat → Prop} {H H' : AH} {v : Value} {L : List Ent} (h : EntsV p H v L) (hw : WF H) (hk : Keep [] H H') : EntsV p H' v L := ⟨h.1.kept hw hk, h.2⟩
theorem EntsV.same {p : Nat → Prop} {H H0 : AH} {v : Value} {L : List Ent} (h : EntsV p H v L) (hs : SameC H H0) : EntsV p H0 v L := ⟨h.1.same hs, h.2⟩
theorem EntsV.mono {p q : Nat → Prop} {H : AH} {v : Value} {L : List Ent} (h : EntsV p H v L) (hpq : ∀ b, p b → q b) : EntsV q H v L := ⟨h.1.mono hpq, h.2⟩
theorem EntsV.over {p : Nat → Prop} {H H' : AH} {v : Value} {L : List Ent} (h : EntsV p H v L) (hk : ∀ b, p b → H'.cells b = H.cells b) : EntsV p H' v L := ⟨h.1.over hk, h.2⟩
theorem EntsV.nil {p : Nat → Prop} {H : AH} : EntsV p H (.slice none 0 0) [] := ⟨.nil, by simp⟩
theorem acc_ents {ty : Nat} {H H' : AH} {L : List Ent} {out : Value} (h : Acc H ty 4 (cellsE L) L.length out H') (hl : L.length ≤ 1000000) : EntsN H L out H' := by
  obtain ⟨S, o, k, hS⟩ := h.done (cellsE_length L)
  exact ⟨⟨o.vw hS, hl⟩, k⟩
theorem own_ents {ty : Nat} {H H' : AH} {L : List Ent} {u : Value} {S : List Nat} (o : Own H' ty 4 u L.length (cellsE L) S) (hk : Keep [] H H') (hS : ∀ b ∈ S, H.next ≤ b) (hl : L.length ≤ 1000000) : EntsN H L u H' := ⟨⟨o.vw hS, hl⟩, hk⟩
theorem drop_ent {L : List Ent} {k : Nat} (h : k < L.length) : ((cellsE L).drop (k * 4)).take 4 = (getE L k).cells := by
  rw [cellsE_get L k h]; unfold getE; rw [List.getElem?_eq_getElem h]; rfl
theorem ents_at {p : Nat → Prop} {H : AH} {v : Value} {L : List Ent} (h : Vw p H 4 v L.length (cellsE L)) (h0 : 0 < L.length) : ∃ b off sp cap cs, v = .slice (some ⟨b, off, sp⟩) L.length cap ∧ H.cells b = some cs ∧ ∀ k, k < L.length → cut cs (off + k * 4) 4 = some (getE L k).cells := by
  obtain ⟨b, off, sp, cap, cs, h1, h2, h3⟩ := entries_at h h0
  refine ⟨b, off, sp, cap, cs, h1, h2, fun k hk => ?_⟩
  rw [h3 k hk]; unfold getE; rw [List.getElem?_eq_getElem hk]; rfl

def AllI (H : AH) (sv : Value) (M : List Ent) (k : Nat) (env : Env) (H' : AH) : Prop :=
  env 13 = some sv ∧ env 14 = some (.int .i64 M.length) ∧ env 15 = some (.int .i64 k) ∧ ∃ out, env 5 = some out ∧ Acc H T_key_Entry 4 (cellsE M) k out H'
def AllQ (H : AH) (M : List Ent) (e : AExit) (env : Env) (H' : AH) : Prop := e = .exit 0 ∧ ∃ out, env 5 = some out ∧ Acc H T_key_Entry 4 (cellsE M) M.length out H'

theorem all_l0 {H : AH} (hw : WF H) {sv : Value} {M : List Ent} (hv : Vw (fun _ => True) H 4 sv M.length (cellsE M)) (hM : M.length ≤ 1000) {env : Env} (h : AllI H sv M 0 env H) : wpC Try.prog 26 (.loop ir_law06_all_l0) (AllQ H M) env H := by
  refine loop_upto M.length (AllI H sv M) (Q := AllQ H M) h ?_
  rintro k env H' hk ⟨e13, e14, e15, out, e5, ho⟩
  by_cases hkn : k < M.length
  · obtain ⟨b0, off, sp, cap, cs, rfl, q1, q2⟩ := ents_at (hv.kept hw ho.2.1) (by omega)
    have q3 := q2 k hkn
    have hd := drop_ent hkn
    generalize getE M k = x at *
    have hbn : (H'.alloc (.row [.int .i64 0, .int .i64 0, .int .i64 0, .int .i64 0] T_secateurlaw06_Entry true)).blk H'.next = some (.row [.int .i64 0, .int .i64 0, .int .i64 0, .int .i64 0] T_secateurlaw06_Entry true) := by simp
    have ho2 := ho.kept (H'' := H'.alloc (.row x.cells T_secateurlaw06_Entry true)) ho.1.alloc .alloc
    obtain ⟨a1, c1, a2, c2, H5, rfl, p1, p2, p3, p4⟩ := ho2.push (bytes := 32) x.cells hd rfl (by omega) (by omega)
    have hcx : cut [Value.int .i64 x.b, .int .i64 x.d, .int .i64 x.s, .int .i64 x.i] 0 4 = some [Value.int .i64 x.b, .int .i64 x.d, .int .i64 x.s, .int .i64 x.i] := rfl
    simp only [Ent.cells] at p1 q3
    simp (disch := omega) [-getElem?_pos, if_pos, if_neg, decide_eq_true, decide_eq_false, ir_law06_all_l0, e5, e13, e14, e15, q1, q3, writeA_row hbn, over, hcx, IntWalk.i64_in, show (k:Int) < M.length by omega]
    refine AFn.pure (of6_spec x) ?_
    simp (disch := omega) [-getElem?_pos, if_pos, if_neg, decide_eq_true, decide_eq_false, e5, e13, e14, e15, elemsA, hcx, p1, IntWalk.i64_in]
    exact ⟨hkn, by simp [e13], by simp [e14], by simp, _, rfl, p2⟩
  · obtain rfl : k = M.length := by omega
    simp (disch := omega) [-getElem?_pos, if_pos, if_neg, decide_eq_true, decide_eq_false, ir_law06_all_l0, e13, e14, e15]
    exact ⟨rfl, out, e5, ho⟩

theorem all_spec {H : AH} {v : Value} {L : List Ent} (h : Rd H 4 v L.length (cellsE L)) {m : Nat} (hm : m ≤ 1000) : AFn Try.prog F_law06_all [v, .int .i64 m] H (EntsN H (L.take m)) := by
  refine AFn.enter mixed ir_law06_all_eq (by simp [ir_law06_all]) fun hw => ?_
  rcases id h with ⟨rfl, hL, _⟩ | ⟨rfl, hL, _⟩ | ⟨b, off, cap, cs, rfl, q1, q2, q3⟩
  · obtain rfl := List.length_eq_zero_iff.1 hL
    simp (disch := omega) [-getElem?_pos, if_pos, if_neg, decide_eq_true, decide_eq_false, ir_law06_all]
    refine wpC_use (all_l0 hw (M := []) (h.vw hw fun _ _ => trivial) (by simp) ⟨by simp, by simp, by simp, _, by simp, .start hw⟩) fun e env2 H2 ⟨he, out, e5, ho⟩ _ => ?_
    subst he
    simp (disch := omega) [-getElem?_pos, if_pos, if_neg, decide_eq_true, decide_eq_false, e5]
    simpa using acc_ents ho (by simp)
  · obtain rfl := List.length_eq_zero_iff.1 hL
    simp (disch := omega) [-getElem?_pos, if_pos, if_neg, decide_eq_true, decide_eq_false, ir_law06_all]
    refine wpC_use (all_l0 hw (M := []) (h.vw hw fun _ _ => trivial) (by simp) ⟨by simp, by simp, by simp, _, by simp, .start hw⟩) fun e env2 H2 ⟨he, out, e5, ho⟩ _ => ?_
    subst he
    simp (disch := omega) [-getElem?_pos, if_pos, if_neg, decide_eq_true, decide_eq_false, e5]
    simpa using acc_ents ho (by simp)
  · obtain ⟨mn, hmn⟩ : ∃ mn : Nat, mn = min L.length m := ⟨_, rfl⟩
    have hif : (if m < L.length then (m : Int) else (L.length : Int)) = (mn : Int) := by split <;> omega
    have ht : L.take m = L.take mn := by
      by_cases hc : m ≤ L.length
      · rw [show mn = m by omega]
      · rw [List.take_of_length_le (by omega), List.take_of_length_le (by omega)]
    have hl : (L.take mn).length = mn := by rw [List.length_take]; omega
    have hv : Vw (fun _ => True) H 4 (.slice (some ⟨b, off, none⟩) mn cap) (L.take mn).length (cellsE (L.take mn)) := by
      have := Vw.first (h.vw (p := fun _ => True) hw fun _ _ => trivial) (k := mn) (by omega) cap (by omega)
      rw [hl, ← cellsE_take]
      exact this
    rw [ht]
    simp (disch := omega) [-getElem?_pos, if_pos, if_neg, decide_eq_true, decide_eq_false, ir_law06_all, hif, hl]
    refine wpC_use (all_l0 hw hv (by omega) ⟨by simp, by simp [hl], by simp, _, by simp, .start hw⟩) fun e env2 H2 ⟨he, out, e5, ho⟩ _ => ?_
    subst he
    simp (disch := omega) [-getElem?_pos, if_pos, if_neg, decide_eq_true, decide_eq_false, e5]
    exact acc_ents ho (by omega)
end Go.Proofs.Ytjcncbejnplakaa
