/-
  Law 5 (1): of, all, stands.
-/
import Derived.Test.YtjcncbejnplakaaMheap4
import Derived.Test.YtjcncbejnplakaaLaw06e
set_option maxRecDepth 100000
set_option linter.unusedSimpArgs false
set_option linter.unusedVariables false
namespace Go.Proofs.Ytjcncbejnplakaa
open Go Go.Abs

theorem of5_spec {H : AH} (x : Ent) : AFn Try.prog F_law05_of [x.val] H fun u H' => u = x.val ∧ H' = H := by
  refine AFn.calm (fun H0 hs => ?_) rfl
  refine AFn.enter mixed ir_law05_of_eq (by simp [ir_law05_of]) fun hw => ?_
  simp (disch := omega) [-getElem?_pos, if_pos, if_neg, decide_eq_true, decide_eq_false, ir_law05_of, cut, writeA, over]

def AllI5 (H : AH) (sv : Value) (M : List Ent) (k : Nat) (env : Env) (H' : AH) : Prop :=
  env 13 = some sv ∧ env 14 = some (.int .i64 M.length) ∧ env 15 = some (.int .i64 k) ∧ ∃ out, env 5 = some out ∧ Acc H T_key_Entry 4 (cellsE M) k out H'
def AllQ5 (H : AH) (M : List Ent) (e : AExit) (env : Env) (H' : AH) : Prop := e = .exit 0 ∧ ∃ out, env 5 = some out ∧ Acc H T_key_Entry 4 (cellsE M) M.length out H'

theorem all5_l0 {H : AH} (hw : WF H) {sv : Value} {M : List Ent} (hv : Vw (fun _ => True) H 4 sv M.length (cellsE M)) (hM : M.length ≤ 1000) {env : Env} (h : AllI5 H sv M 0 env H) : wpC Try.prog 26 (.loop ir_law05_all_l0) (AllQ5 H M) env H := by
  refine loop_upto M.length (AllI5 H sv M) (Q := AllQ5 H M) h ?_
  rintro k env H' hk ⟨e13, e14, e15, out, e5, ho⟩
  by_cases hkn : k < M.length
  · obtain ⟨b0, off, sp, cap, cs, rfl, q1, q2⟩ := ents_at (hv.kept hw ho.2.1) (by omega)
    have q3 := q2 k hkn
    have hd := drop_ent hkn
    generalize getE M k = x at *
    have hbn : (H'.alloc (.row [.int .i64 0, .int .i64 0, .int .i64 0, .int .i64 0] T_secateurlaw05_Entry true)).blk H'.next = some (.row [.int .i64 0, .int .i64 0, .int .i64 0, .int .i64 0] T_secateurlaw05_Entry true) := by simp
    have ho2 := ho.kept (H'' := H'.alloc (.row x.cells T_secateurlaw05_Entry true)) ho.1.alloc .alloc
    obtain ⟨a1, c1, a2, c2, H5, rfl, p1, p2, p3, p4⟩ := ho2.push (bytes := 32) x.cells hd rfl (by omega) (by omega)
    have hcx : cut [Value.int .i64 x.b, .int .i64 x.d, .int .i64 x.s, .int .i64 x.i] 0 4 = some [Value.int .i64 x.b, .int .i64 x.d, .int .i64 x.s, .int .i64 x.i] := rfl
    simp only [Ent.cells] at p1 q3
    simp (disch := omega) [-getElem?_pos, if_pos, if_neg, decide_eq_true, decide_eq_false, ir_law05_all_l0, e5, e13, e14, e15, q1, q3, writeA_row hbn, over, hcx, IntWalk.i64_in, show (k:Int) < M.length by omega]
    refine AFn.pure (of5_spec x) ?_
    simp (disch := omega) [-getElem?_pos, if_pos, if_neg, decide_eq_true, decide_eq_false, e5, e13, e14, e15, elemsA, hcx, p1, IntWalk.i64_in]
    exact ⟨hkn, by simp [e13], by simp [e14], by simp, _, rfl, p2⟩
  · obtain rfl : k = M.length := by omega
    simp (disch := omega) [-getElem?_pos, if_pos, if_neg, decide_eq_true, decide_eq_false, ir_law05_all_l0, e13, e14, e15]
    exact ⟨rfl, out, e5, ho⟩

theorem all5_spec {H : AH} {v : Value} {L : List Ent} (h : Rd H 4 v L.length (cellsE L)) {m : Nat} (hm : m ≤ 1000) : AFn Try.prog F_law05_all [v, .int .i64 m] H (EntsN H (L.take m)) := by
  refine AFn.enter mixed ir_law05_all_eq (by simp [ir_law05_all]) fun hw => ?_
  rcases id h with ⟨rfl, hL, _⟩ | ⟨rfl, hL, _⟩ | ⟨b, off, cap, cs, rfl, q1, q2, q3⟩
  · obtain rfl := List.length_eq_zero_iff.1 hL
    simp (disch := omega) [-getElem?_pos, if_pos, if_neg, decide_eq_true, decide_eq_false, ir_law05_all]
    refine wpC_use (all5_l0 hw (M := []) (h.vw hw fun _ _ => trivial) (by simp) ⟨by simp, by simp, by simp, _, by simp, .start hw⟩) fun e env2 H2 ⟨he, out, e5, ho⟩ _ => ?_
    subst he
    simp (disch := omega) [-getElem?_pos, if_pos, if_neg, decide_eq_true, decide_eq_false, e5]
    simpa using acc_ents ho (by simp)
  · obtain rfl := List.length_eq_zero_iff.1 hL
    simp (disch := omega) [-getElem?_pos, if_pos, if_neg, decide_eq_true, decide_eq_false, ir_law05_all]
    refine wpC_use (all5_l0 hw (M := []) (h.vw hw fun _ _ => trivial) (by simp) ⟨by simp, by simp, by simp, _, by simp, .start hw⟩) fun e env2 H2 ⟨he, out, e5, ho⟩ _ => ?_
    subst he
    simp (disch := omega) [-getElem?_pos, if_pos, if_neg, decide_eq_true, decide_eq_false, e5]
    simpa using acc_ents ho (by simp)
  · obtain ⟨mn, hmn⟩ : ∃ mn : Nat, mn = min L.length m := ⟨_, rfl⟩
    have hif : (if m < L.length then (m : Int) else (L.length : Int)) = (mn : Int) := by split <;> omega
    have ht : L.take m = L.take mn := by
      by_cases hc : m ≤ L.length
      · rw [show mn = m by omega]
      · rw [List.take_of_length_le (by omega), List.take_of_length_le (by omega)]
    have hl : (L.take mn).length = mn := by rw [List.length_take]; omega
    have hv : Vw (fun _ => True) H 4 (.slice (some ⟨b, off, none⟩) mn cap) (L.take mn).length (cellsE (L.take mn)) := by
      have := Vw.first (h.vw (p := fun _ => True) hw fun _ _ => trivial) (k := mn) (by omega) cap (by omega)
      rw [hl, ← cellsE_take]
      exact this
    rw [ht]
    simp (disch := omega) [-getElem?_pos, if_pos, if_neg, decide_eq_true, decide_eq_false, ir_law05_all, hif, hl]
    refine wpC_use (all5_l0 hw hv (by omega) ⟨by simp, by simp [hl], by simp, _, by simp, .start hw⟩) fun e env2 H2 ⟨he, out, e5, ho⟩ _ => ?_
    subst he
    simp (disch := omega) [-getElem?_pos, if_pos, if_neg, decide_eq_true, decide_eq_false, e5]
    exact acc_ents ho (by omega)

def LevI (i : Nat) (H : AH) (j : Nat) (env : Env) (H' : AH) : Prop := env 5 = some (.int .i64 (j : Nat)) ∧ env 4 = some (.bool (parB i == parB j)) ∧ j < 1000000 ∧ H' = H
def LevQ (i : Nat) (H : AH) (ex : AExit) (env : Env) (H' : AH) : Prop := ex = .exit 2 ∧ env 4 = some (.bool (parB i)) ∧ H' = H
theorem stands5_l1 {H : AH} {i : Nat} (hi : i < 1000000) {env : Env} (h : LevI i H i env H) : wpC Try.prog 80 (.loop ir_law05_stands_l1) (LevQ i H) env H := by
  refine loop_rule (LevI i H) (Q := LevQ i H) ?_ (j := i) h
  rintro j env H' ⟨e5, e4, hj, rfl⟩
  by_cases h0 : j = 0
  · subst h0
    rw [parB_zero] at e4
    simp (disch := omega) [-getElem?_pos, if_pos, if_neg, decide_eq_true, decide_eq_false, ir_law05_stands_l1, e5, e4]
    exact ⟨rfl, by show env 4 = _; rw [e4]; simp, rfl⟩
  · have t1 : (j : Int) - 1 = ((j - 1 : Nat) : Int) := by omega
    have t2 : ((j - 1 : Nat) : Int).tdiv 2 = (((j - 1) / 2 : Nat) : Int) := by rw [Int.tdiv_eq_ediv_of_nonneg (by omega)]; norm_cast
    have hp := parB_pos (i := j) (by omega)
    have hlt : (j - 1) / 2 < j := by omega
    have b1 : j - 1 < 1000000 := by omega
    rw [hp] at e4
    generalize (j - 1) / 2 = p at *
    generalize j - 1 = x1 at *
    simp (disch := omega) [-getElem?_pos, if_pos, if_neg, decide_eq_true, decide_eq_false, ir_law05_stands_l1, e5, e4, t1, t2, IntWalk.i64_in, h0, show (0:Int) < (j:Int) by omega]
    refine ⟨p, hlt, by simp, ?_, by omega, rfl⟩
    cases parB i <;> cases parB p <;> simp

def SixI (i n : Nat) (sv : Value) (b : Nat) (H : AH) (j : Nat) (env : Env) (H' : AH) : Prop :=
  env 0 = some sv ∧ env 3 = some (.int .i64 (i : Nat)) ∧ env 4 = some (.bool (parB i)) ∧ env 39 = some (.slice (some ⟨b, 0, none⟩) 6 6) ∧ env 40 = some (.int .i64 6) ∧ env 41 = some (.int .i64 (j : Nat)) ∧ H' = H
def SixQ (H : AH) (ex : AExit) (env : Env) (H' : AH) : Prop := ex = .exit 4 ∧ H' = H
theorem stands5_l0 {p : Nat → Prop} {H : AH} {sv : Value} {L : List Ent} (hv : EntsV p H sv L) (hL : StMl L) {i b : Nat} (hi : i < L.length) {cs6 : List Value} (hb : H.cells b = some cs6) (hc : ∀ j, j < 6 → cs6[j]? = some (.int .i64 (descN i j : Nat))) {env : Env} (h : SixI i L.length sv b H 0 env H) :
    wpC Try.prog 80 (.loop ir_law05_stands_l0) (SixQ H) env H := by
  refine loop_upto 6 (SixI i L.length sv b H) (Q := SixQ H) h ?_
  rintro j env H' hj ⟨e0, e3, e4, e39, e40, e41, rfl⟩
  obtain ⟨b0, off, sp, cap, cs, rfl, q1, q2⟩ := ents_at hv.1 (by omega)
  by_cases hj6 : j < 6
  · have hg := hc j hj6
    have hd : Desc2 i (descN i j) := desc2_iff.2 ⟨j, hj6, rfl⟩
    generalize descN i j = k at *
    by_cases hk : k < L.length
    · have hcond := hL i k hk hd.under
      have g1 := q2 k hk
      have g2 := q2 i hi
      have hki : k ≠ i := by have := hd.under.ge; omega
      generalize getE L k = y at *
      generalize getE L i = x at *
      simp only [Ent.cells] at g1 g2
      cases hs : parB i with
      | true =>
        rw [hs] at hcond e4
        unfold RB at hcond
        simp only [if_true] at hcond
        simp (disch := omega) [-getElem?_pos, if_pos, if_neg, decide_eq_true, decide_eq_false, ir_law05_stands_l0, e0, e3, e4, e39, e40, e41, hb, hg, q1, g1, g2, IntWalk.i64_in, show (j:Int) < 6 by omega, show (k:Int) < (L.length:Int) by omega, show (i:Int) < (L.length:Int) by omega]
        refine AFnD.of (Less_spec y x) ?_
        simp (disch := omega) [-getElem?_pos, if_pos, if_neg, decide_eq_true, decide_eq_false, hcond, e0, e3, e4, e39, e40, e41, IntWalk.i64_in]
        exact ⟨hj6, by simp [e0], by simp [e3], by simp [e4, hs], by simp [e39], by simp [e40], by simp, rfl⟩
      | false =>
        rw [hs] at hcond e4
        unfold RB at hcond
        simp only [Bool.false_eq_true, if_false] at hcond
        simp (disch := omega) [-getElem?_pos, if_pos, if_neg, decide_eq_true, decide_eq_false, ir_law05_stands_l0, e0, e3, e4, e39, e40, e41, hb, hg, q1, g1, g2, IntWalk.i64_in, show (j:Int) < 6 by omega, show (k:Int) < (L.length:Int) by omega, show (i:Int) < (L.length:Int) by omega]
        refine AFnD.of (Less_spec x y) ?_
        simp (disch := omega) [-getElem?_pos, if_pos, if_neg, decide_eq_true, decide_eq_false, hcond, e0, e3, e4, e39, e40, e41, IntWalk.i64_in]
        exact ⟨hj6, by simp [e0], by simp [e3], by simp [e4, hs], by simp [e39], by simp [e40], by simp, rfl⟩
    · simp (disch := omega) [-getElem?_pos, if_pos, if_neg, decide_eq_true, decide_eq_false, ir_law05_stands_l0, e0, e3, e4, e39, e40, e41, hb, hg, q1, IntWalk.i64_in, show (j:Int) < 6 by omega, show ¬ (k:Int) < (L.length:Int) by omega]
      exact ⟨hj6, by simp [e0], by simp [e3], by simp [e4], by simp [e39], by simp [e40], by simp, rfl⟩
  · obtain rfl : j = 6 := by omega
    simp (disch := omega) [-getElem?_pos, if_pos, if_neg, decide_eq_true, decide_eq_false, ir_law05_stands_l0, e40, e41]
    exact ⟨rfl, rfl⟩

def Stand5I (H : AH) (sv : Value) (n : Nat) (k : Nat) (env : Env) (H' : AH) : Prop :=
  env 0 = some sv ∧ env 8 = some sv ∧ env 9 = some (.int .i64 n) ∧ env 10 = some (.int .i64 k) ∧ WF H' ∧ Keep [] H H'
def Stand5Q (ex : AExit) (env : Env) (H' : AH) : Prop := ex = .exit 0
theorem stands5_spec {p : Nat → Prop} {H : AH} {v : Value} {L : List Ent} (h : EntsV p H v L) (hL : StMl L) (hsm : L.length < 200000) : AFn Try.prog F_law05_stands [v] H fun u H' => u = .bool true ∧ H' = H := by
  refine AFn.calm (fun H0 hs => ?_) rfl
  replace h := h.same hs
  refine AFn.enter mixed ir_law05_stands_eq (by simp [ir_law05_stands]) fun hw => ?_
  obtain ⟨a, c, rfl⟩ := h.1.slice
  simp (disch := omega) [-getElem?_pos, if_pos, if_neg, decide_eq_true, decide_eq_false, ir_law05_stands]
  refine wpC_use (loop_upto L.length (Stand5I H0 (.slice a L.length c) L.length) (Q := Stand5Q) ⟨by simp, by simp, by simp, by simp, hw, .refl⟩ ?_) fun e env2 H2 he _ => ?_
  · rintro i env H' hi ⟨e0, e8, e9, e10, w', k'⟩
    by_cases hin : i < L.length
    · simp (disch := omega) [-getElem?_pos, if_pos, if_neg, decide_eq_true, decide_eq_false, ir_law05_stands_l2, e0, e8, e9, e10, show (i:Int) < (L.length:Int) by omega]
      refine wpC_use (stands5_l1 (i := i) (by omega) ⟨by simp, by simp, by omega, rfl⟩) fun e env2 H2 ⟨he, f4, hH⟩ hout => ?_
      subst he hH
      have f0 := hout 0 (by decide)
      have f3 := hout 3 (by decide)
      have f8 := hout 8 (by decide)
      have f9 := hout 9 (by decide)
      have f10 := hout 10 (by decide)
      simp [e0, e8, e9, e10] at f0 f3 f8 f9 f10
      clear hout
      simp (disch := omega) [-getElem?_pos, if_pos, if_neg, decide_eq_true, decide_eq_false, f0, f3, f4, f8, f9, f10, IntWalk.i64_in]
      obtain ⟨cs6, hcs⟩ : ∃ cs6, cs6 = [Value.int .i64 (2 * (i : Int) + 1), Value.int .i64 (2 * (i : Int) + 2), Value.int .i64 (4 * (i : Int) + 3), Value.int .i64 (4 * (i : Int) + 4), Value.int .i64 (4 * (i : Int) + 5), Value.int .i64 (4 * (i : Int) + 6)] := ⟨_, rfl⟩
      have hAg : ∀ j, j < 6 → cs6[j]? = some (.int .i64 (descN i j : Nat)) := by
        intro j hj
        rw [hcs]
        have hc : j = 0 ∨ j = 1 ∨ j = 2 ∨ j = 3 ∨ j = 4 ∨ j = 5 := by omega
        rcases hc with rfl | rfl | rfl | rfl | rfl | rfl <;> simp [descN] <;> omega
      rw [← hcs]
      have hk2 : Keep [] H0 (H2.alloc (.row cs6 T_int true)) := .new_alloc k'
      refine wpC_use (stands5_l0 (h.kept hw hk2) hL hin (b := H2.next) (cs6 := cs6) (by simp) hAg ⟨by simp [f0], by simp [f3], by simp [f4], by simp, by simp, by simp, rfl⟩) fun e env3 H3 ⟨he, hH⟩ hout => ?_
      subst he hH
      have g0 := hout 0 (by decide)
      have g8 := hout 8 (by decide)
      have g9 := hout 9 (by decide)
      have g10 := hout 10 (by decide)
      simp [f0, f8, f9, f10] at g0 g8 g9 g10
      clear hout
      simp (disch := omega) [-getElem?_pos, if_pos, if_neg, decide_eq_true, decide_eq_false, g0, g8, g9, g10, IntWalk.i64_in]
      exact ⟨hin, by simp [g0], by simp [g8], by simp [g9], by simp, w'.alloc, hk2⟩
    · obtain rfl : i = L.length := by omega
      simp (disch := omega) [-getElem?_pos, if_pos, if_neg, decide_eq_true, decide_eq_false, ir_law05_stands_l2, e9, e10]
      rfl
  · subst he
    simp (disch := omega) [-getElem?_pos, if_pos, if_neg, decide_eq_true, decide_eq_false, ]
end Go.Proofs.Ytjcncbejnplakaa
