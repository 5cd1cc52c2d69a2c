/-
  Layer 4: the document's Sort.
-/
import Derived.Test.YtjcncbejnplakaaDoorPsB
import Derived.Test.YtjcncbejnplakaaDoorLaw04
set_option maxRecDepth 100000
set_option linter.unusedSimpArgs false
set_option linter.unusedVariables false
namespace Go.Proofs.YtjcncbejnplakaaDoor
open Go Go.Abs

@[simp] theorem guardK_un {P : Program} {dr : Bool} {K : Env → AH → Prop} {rest : List AOper} {env : Env} {H : AH} {d : Option Nat} {op : IOp} {b : Bool} : guardK P dr K rest env H d op b (some undef) = wpO P dr K rest (put env d undef) H := by simp [guardK, undef]

def ltC (x y : Ent) : Int := if x.b = y.b then if x.d = y.d then if x.s = y.s then 0 else if x.s < y.s then -1 else 1 else if x.d > y.d then -1 else 1 else if x.b < y.b then -1 else 1
theorem Cmp4_spec {H : AH} (x y : Ent) : AFn Tryd.prog F_ref04_Cmp [x.val, y.val] H fun u H' => u = .int .i64 (ltC x y) ∧ H' = H := by
  refine AFn.calm (fun H0 hs => ?_) rfl
  refine AFn.enter mixed ir_ref04_Cmp_eq (by simp [ir_ref04_Cmp]) fun hw => ?_
  unfold ltC
  by_cases h1 : x.b = y.b
  · by_cases h2 : x.d = y.d
    · by_cases h3 : x.s = y.s
      · simp (disch := omega) [-getElem?_pos, if_pos, if_neg, decide_eq_true, decide_eq_false, ir_ref04_Cmp, h1, h2, h3, cut]
      · by_cases h4 : x.s < y.s <;> simp (disch := omega) [-getElem?_pos, if_pos, if_neg, decide_eq_true, decide_eq_false, ir_ref04_Cmp, h1, h2, h3, h4, cut]
    · by_cases h4 : x.d > y.d <;> simp (disch := omega) [-getElem?_pos, if_pos, if_neg, decide_eq_true, decide_eq_false, ir_ref04_Cmp, h1, h2, h4, cut]
  · by_cases h4 : x.b < y.b <;> simp (disch := omega) [-getElem?_pos, if_pos, if_neg, decide_eq_true, decide_eq_false, ir_ref04_Cmp, h1, h4, cut]

theorem Less4_spec {H : AH} (x y : Ent) : AFn Tryd.prog F_ref04_Less [x.val, y.val] H fun u H' => u = .bool (x.lt y) ∧ H' = H := by
  refine AFn.calm (fun H0 hs => ?_) rfl
  refine AFn.enter mixed ir_ref04_Less_eq (by simp [ir_ref04_Less]) fun hw => ?_
  have hlt : x.lt y = (decide (ltC x y < 0) || (decide (ltC x y = 0) && decide (x.i < y.i))) := by
    unfold Ent.lt ltC ordC keyC orI cmpI
    simp only [orI, cmpI]
    grind
  rw [hlt]
  simp (disch := omega) [-getElem?_pos, if_pos, if_neg, decide_eq_true, decide_eq_false, ir_ref04_Less, cut]
  refine AFn.pure (Cmp4_spec x y) ?_
  generalize ltC x y = c
  by_cases h1 : c < 0
  · simp (disch := omega) [-getElem?_pos, if_pos, if_neg, decide_eq_true, decide_eq_false, h1, cut]
  · by_cases h2 : c = 0
    · simp (disch := omega) [-getElem?_pos, if_pos, if_neg, decide_eq_true, decide_eq_false, h1, h2, cut]
    · simp (disch := omega) [-getElem?_pos, if_pos, if_neg, decide_eq_true, decide_eq_false, h1, h2, cut]

/-- Entries in a slice of one's own, of whatever type. -/
def DatY (ty : Nat) (H : AH) (v : Value) (L : List Ent) (S : List Nat) : Prop := Own H ty 4 v L.length (cellsE L) S ∧ L.length ≤ 1000000
theorem DatY.two {ty : Nat} {H : AH} {v : Value} {L : List Ent} {S : List Nat} (h : DatY ty H v L S) {i k : Nat} (hi : i < L.length) (hk : k < L.length) : ∃ b off sp cap cs H1 H2, v = .slice (some ⟨b, off, sp⟩) L.length cap ∧ S = [b] ∧ H.cells b = some cs ∧
    cut cs (off + i * 4) 4 = some [.int .i64 (getE L i).b, .int .i64 (getE L i).d, .int .i64 (getE L i).s, .int .i64 (getE L i).i] ∧ cut cs (off + k * 4) 4 = some [.int .i64 (getE L k).b, .int .i64 (getE L k).d, .int .i64 (getE L k).s, .int .i64 (getE L k).i] ∧
    writeA H b (off + i * 4) [.int .i64 (getE L k).b, .int .i64 (getE L k).d, .int .i64 (getE L k).s, .int .i64 (getE L k).i] = some H1 ∧ (∀ c, c ≠ b → H1.cells c = H.cells c) ∧ writeA H1 b (off + k * 4) [.int .i64 (getE L i).b, .int .i64 (getE L i).d, .int .i64 (getE L i).s, .int .i64 (getE L i).i] = some H2 ∧
    DatY ty H2 v (swapL L i k) S ∧ Keep S H H2 ∧ (WF H → WF H2) := by
  obtain ⟨h2, hl⟩ := h
  obtain ⟨b, off, sp, cap, cs, rfl, rfl, q1, q2, q3, q4⟩ := h2.pos (by omega)
  obtain ⟨b', off', sp', cap', cs', he, hc', hall⟩ := ents_at (h2.vw (p := fun _ => True) fun _ _ => trivial) (by omega)
  cases he
  rw [q2] at hc'
  cases hc'
  have e1 := hall i hi
  have e2 := hall k hk
  obtain ⟨p1, p2, _⟩ := h2.write q1 (k := i * 4) (news := (getE L k).cells) (by simp [Ent.cells]; omega)
  rw [cellsE_set L i (getE L k) hi] at p2
  have hq1' : (H.set b (.row (over cs (off + i * 4) (getE L k).cells) ty true)).blk b = some (.row (over cs (off + i * 4) (getE L k).cells) ty true) := AH.set_blk_same
  obtain ⟨p3, p4, _⟩ := p2.write hq1' (k := k * 4) (news := (getE L i).cells) (by simp [Ent.cells]; omega)
  rw [cellsE_set (L.set i (getE L k)) k (getE L i) (by simpa using hk)] at p4
  have hsw : swapL L i k = (L.set i (getE L k)).set k (getE L i) := by rw [swapL_eq hi hk, getE_eq hi, getE_eq hk]
  rw [← hsw] at p4
  refine ⟨b, off, sp, cap, cs, _, _, rfl, rfl, q2, e1, e2, p1, fun c hc => AH.cells_set_ne hc, p3, ⟨by rw [swapL_length]; exact p4, by rw [swapL_length]; exact hl⟩, (Keep.set (by simp)).trans' (Keep.set (by simp)), fun hw => (hw.set (hw.lt q1)).set (by simpa using hw.lt q1)⟩
theorem DatY.kept {ty : Nat} {H H' : AH} {v : Value} {L : List Ent} {S : List Nat} (h : DatY ty H v L S) (hw : WF H) (hk : Keep [] H H') : DatY ty H' v L S := ⟨h.1.kept hw hk (by simp), h.2⟩

def RsJ (H0 : AH) (lv : Value) (L : List Ent) (i : Nat) (j : Nat) (env : Env) (H' : AH) : Prop :=
  ∃ M sv S, env 0 = some lv ∧ env 3 = some sv ∧ env 4 = some (.int .i64 i) ∧ env 5 = some (.int .i64 j) ∧ WF H' ∧ Keep [] H0 H' ∧ (∀ b ∈ S, H0.next ≤ b) ∧ M.Perm (L.take (i + 1)) ∧ j ≤ i ∧ InsI M 0 i j ∧ DatY T_secateurref04_Entry H' sv M S
def RsJQ (H0 : AH) (lv : Value) (L : List Ent) (i : Nat) (ex : AExit) (env : Env) (H' : AH) : Prop :=
  ex = .exit 2 ∧ ∃ M sv S, env 0 = some lv ∧ env 3 = some sv ∧ env 4 = some (.int .i64 i) ∧ WF H' ∧ Keep [] H0 H' ∧ (∀ b ∈ S, H0.next ≤ b) ∧ M.Perm (L.take (i + 1)) ∧ SrtIn M 0 (i + 1) ∧ DatY T_secateurref04_Entry H' sv M S
theorem refsort_l0 {H0 H : AH} {lv : Value} {L : List Ent} {i : Nat} (hi : i < L.length) {env : Env} (h : RsJ H0 lv L i i env H) : wpC Tryd.prog 56 (.loop ir_ref04_Sort_l0) (RsJQ H0 lv L i) env H := by
  refine loop_rule (RsJ H0 lv L i) (Q := RsJQ H0 lv L i) ?_ (j := i) h
  rintro j env H' ⟨M, sv, S, e0, e3, e4, e5, w', k', hS, hp, hji, hI, hD⟩
  have hMl : M.length = i + 1 := by rw [hp.length_eq, List.length_take]; omega
  have hD2 := hD.2
  by_cases hlt : 0 < j
  · obtain ⟨m, hm⟩ : ∃ m, m = j - 1 := ⟨_, rfl⟩
    have hmi : (j : Int) - 1 = (m : Int) := by omega
    have hst := hI.step (by omega) hlt hji
    have hdn := hI.done (by omega)
    have hsw := swapL_perm M j m
    rw [← hm] at hst hdn
    have w1 := WF.alloc w' (B := .row (getE M j).cells T_secateurref04_Entry true)
    have hk1 : Keep [] H' (H'.alloc (.row (getE M j).cells T_secateurref04_Entry true)) := .alloc
    have hD1 := hD.kept w' hk1
    have hlt' := hD.1.lt w'
    obtain ⟨bb, off, sp, cap, cs, H1, H2, rfl, rfl, q1, q2, q3, q4, qo, q5, hD', hk', hw'⟩ := hD1.two (i := j) (k := m) (by omega) (by omega)
    have hbn : bb < H'.next := hlt' bb (by simp)
    have q1a : H'.cells bb = some cs := by rw [AH.cells_alloc_ne (by omega)] at q1; exact q1
    have qn := qo H'.next (by omega)
    have hcx : ∀ x : Ent, cut [Value.int .i64 x.b, .int .i64 x.d, .int .i64 x.s, .int .i64 x.i] 0 4 = some [Value.int .i64 x.b, .int .i64 x.d, .int .i64 x.s, .int .i64 x.i] := fun _ => rfl
    rw [AH.cells_alloc_new] at qn
    have hn : bb ≠ H'.next := by omega
    have hbz : (H'.alloc (.row [.int .i64 0, .int .i64 0, .int .i64 0, .int .i64 0] T_secateurref04_Entry true)).blk H'.next = some (.row [.int .i64 0, .int .i64 0, .int .i64 0, .int .i64 0] T_secateurref04_Entry true) := by simp
    simp only [Ent.cells] at q1 q4 qn w1 hk1 hk'
    cases hx : (getE M j).lt (getE M m) with
    | true =>
      have h1 := hst hx
      generalize getE M j = x at *
      generalize getE M m = y at *
      simp (disch := omega) [-getElem?_pos, if_pos, if_neg, decide_eq_true, decide_eq_false, ir_ref04_Sort_l0, e0, e3, e4, e5, hmi, q1a, q2, q3, IntWalk.i64_in]
      refine AFnD.of (Less4_spec x y) ?_
      rw [hx]
      simp (disch := omega) [-getElem?_pos, if_pos, if_neg, decide_eq_true, decide_eq_false, e0, e3, e4, e5, hmi, q1a, q2, q3, q4, q5, qn, hcx, writeA_row hbz, over, hn, IntWalk.i64_in]
      refine ⟨m, by omega, swapL M j m, _, _, by simp [e0], by simp [e3], by simp [e4], by simp, hw' w1, ?_, hS, hsw.trans hp, by omega, h1, hD'⟩
      exact (k'.trans' hk1).trans hk' fun b hb hlt => by have := hS b hb; omega
    | false =>
      have h1 := hdn (.inr hx)
      generalize getE M j = x at *
      generalize getE M m = y at *
      simp (disch := omega) [-getElem?_pos, if_pos, if_neg, decide_eq_true, decide_eq_false, ir_ref04_Sort_l0, e0, e3, e4, e5, hmi, q1a, q2, q3, IntWalk.i64_in]
      refine AFnD.of (Less4_spec x y) ?_
      rw [hx]
      simp (disch := omega) [-getElem?_pos, if_pos, if_neg, decide_eq_true, decide_eq_false, ]
      exact ⟨rfl, M, _, _, by simp [e0], by simp [e3], by simp [e4], w', k', hS, hp, h1, hD⟩
  · have h1 := hI.done (by omega) (.inl (by omega))
    simp (disch := omega) [-getElem?_pos, if_pos, if_neg, decide_eq_true, decide_eq_false, ir_ref04_Sort_l0, e0, e3, e4, e5]
    exact ⟨rfl, M, _, _, e0, e3, e4, w', k', hS, hp, h1, hD⟩

def RsO (H0 : AH) (lv : Value) (L : List Ent) (i : Nat) (env : Env) (H' : AH) : Prop :=
  ∃ M sv S, env 0 = some lv ∧ env 3 = some sv ∧ env 4 = some (.int .i64 i) ∧ WF H' ∧ Keep [] H0 H' ∧ (∀ b ∈ S, H0.next ≤ b) ∧ M.Perm (L.take i) ∧ SrtIn M 0 i ∧ DatY T_secateurref04_Entry H' sv M S
def RsOQ (H0 : AH) (L : List Ent) (ex : AExit) (env : Env) (H' : AH) : Prop :=
  ex = .exit 0 ∧ ∃ M sv S, env 3 = some sv ∧ WF H' ∧ Keep [] H0 H' ∧ (∀ b ∈ S, H0.next ≤ b) ∧ M.Perm L ∧ SrtIn M 0 L.length ∧ DatY T_secateurref04_Entry H' sv M S
theorem perm_snoc {L M : List Ent} {k : Nat} (h : M.Perm (L.take k)) (hk : k < L.length) : (M ++ [getE L k]).Perm (L.take (k + 1)) := by
  rw [List.take_succ_eq_append_getElem hk, getE_eq hk]
  exact h.append_right _
theorem srt_snoc {M : List Ent} {x : Ent} {k : Nat} (hl : M.length = k) (h : SrtIn M 0 k) : SrtIn (M ++ [x]) 0 k := by
  intro p q h1 h2 h3
  have e : ∀ r, r < k → getE (M ++ [x]) r = getE M r := fun r hr => by unfold getE; rw [List.getElem?_append_left (by omega)]
  rw [e p (by omega), e q h3]
  exact h p q h1 h2 h3

theorem sort_eq' {L M : List Ent} (hp : M.Perm L) (hs : SrtIn M 0 L.length) : M = sortL Ent.lt L := by
  have hl := hp.length_eq
  refine srt_unique isOrd ?_ (sortL_srt isOrd L) (hp.trans (sortL_perm isOrd L).symm)
  unfold Srt
  rw [List.pairwise_iff_getElem]
  intro i j hi hj hij
  have := hs i j (Nat.zero_le _) hij (by omega)
  rwa [getE_eq hi, getE_eq hj] at this

theorem Sort4_spec {p : Nat → Prop} {H : AH} {lv : Value} {L : List Ent} (hL : EntsV p H lv L) : AFn Tryd.prog F_ref04_Sort [lv] H fun u H' => ∃ S, DatY T_secateurref04_Entry H' u (sortL Ent.lt L) S ∧ Keep [] H H' ∧ ∀ b ∈ S, H.next ≤ b := by
  refine AFn.enter mixed ir_ref04_Sort_eq (by simp [ir_ref04_Sort]) fun hw => ?_
  obtain ⟨la, lc, rfl⟩ := hL.1.slice
  have hl := hL.2
  simp (disch := omega) [-getElem?_pos, if_pos, if_neg, decide_eq_true, decide_eq_false, ir_ref04_Sort]
  refine wpC_use (loop_upto L.length (RsO H (.slice la L.length lc) L) (Q := RsOQ H L) ⟨[], .slice none 0 0, [], by simp, by simp, by simp, hw, .refl, by simp, by simp, fun p q h1 h2 h3 => by omega, ⟨by simpa [cellsE] using Own.nil, by simp⟩⟩ ?_) ?_
  · rintro i env H' hi ⟨M, sv, S, e0, e3, e4, w', k', hS, hp, hs, hD⟩
    have hMl : M.length = i := by rw [hp.length_eq, List.length_take]; omega
    by_cases hin : i < L.length
    · obtain ⟨b0, off, sp, cap, cs, he, q1, q2⟩ := ents_at (hL.1.kept hw k') (by omega)
      cases he
      have q3 := q2 i hin
      have hps := perm_snoc hp hin
      have hss := srt_snoc (x := getE L i) hMl hs
      generalize getE L i = x at *
      obtain ⟨a', c', H5, S', p1, p2, p3, p4, p5⟩ := hD.1.push w' T_secateurref04_Entry 32 1 x.cells (by simp [Ent.cells]) (by omega) (by omega)
      have hc := cellsE_append M [x]
      have hcx : cut [Value.int .i64 x.b, .int .i64 x.d, .int .i64 x.s, .int .i64 x.i] 0 4 = some [Value.int .i64 x.b, .int .i64 x.d, .int .i64 x.s, .int .i64 x.i] := rfl
      obtain ⟨sa, sc, hsv⟩ := hD.1.slice
      simp only [Ent.cells] at p1 q3
      simp (disch := omega) [-getElem?_pos, if_pos, if_neg, decide_eq_true, decide_eq_false, ir_ref04_Sort_l1, e0, e3, e4, q1, q3, IntWalk.i64_in, over, elemsA, hcx, p1]
      have hD5 : DatY T_secateurref04_Entry H5 (.slice a' (M.length + 1) c') (M ++ [x]) S' := by
        refine ⟨?_, by simp; omega⟩
        rw [List.length_append, hc]
        simpa [cellsE, Ent.cells] using p2
      have k5 : Keep [] H H5 := k'.trans p3 fun b hb hlt => by have := hS b hb; omega
      have hS5 : ∀ b ∈ S', H.next ≤ b := fun b hb => (p5 b hb).elim (hS b) fun h => by have := k'.next; omega
      rw [hMl] at hD5
      refine wpC_use (refsort_l0 (H0 := H) (lv := .slice (some ⟨b0, off, sp⟩) L.length lc) hin ⟨M ++ [x], _, S', by simp [e0], by simp [hMl], by simp [e4], by simp, p4, k5, hS5, hps, Nat.le_refl _, .start hss, hD5⟩) ?_
      rintro ex env2 H6 ⟨rfl, M2, sv2, S2, f0, f3, f4, w6, k6, hS6, hp6, hs6, hD6⟩ _
      simp (disch := omega) [-getElem?_pos, if_pos, if_neg, decide_eq_true, decide_eq_false, f0, f3, f4, IntWalk.i64_in]
      exact ⟨hin, M2, sv2, S2, by simp [f0], by simp [f3], by simp, w6, k6, hS6, hp6, hs6, hD6⟩
    · obtain rfl : i = L.length := by omega
      simp (disch := omega) [-getElem?_pos, if_pos, if_neg, decide_eq_true, decide_eq_false, ir_ref04_Sort_l1, e0, e3, e4]
      rw [List.take_length] at hp
      exact ⟨rfl, M, sv, S, by simp [e3], w', k', hS, hp, hs, hD⟩
  · rintro ex env2 H2 ⟨rfl, M, sv, S, e3, w2, k2, hS, hp, hs, hD⟩ _
    simp (disch := omega) [-getElem?_pos, if_pos, if_neg, decide_eq_true, decide_eq_false, e3]
    rw [sort_eq' hp hs] at hD
    exact ⟨S, hD, k2, hS⟩
end Go.Proofs.YtjcncbejnplakaaDoor
