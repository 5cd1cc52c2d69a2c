/-
  Contracts of the document's answers for layer 3: lists of truths.
-/
import Derived.Test.YtakdkbdjjlmccaaDoorBitSet3
import Derived.Test.YtakdkbdjjlmccaaDoorA31
set_option maxRecDepth 100000
set_option linter.unusedSimpArgs false
set_option linter.unusedVariables false
namespace Go.Proofs.YtakdkbdjjlmccaaDoor
open Go Go.Abs
def BoolsV (p : Nat → Prop) (H : AH) (v : Value) (B : List Bool) : Prop := Vw p H 1 v B.length (B.map .bool) ∧ B.length ≤ 1000000
def BoolsN (H : AH) (B : List Bool) (u : Value) (H' : AH) : Prop := BoolsV (fun b => H.next ≤ b) H' u B ∧ Keep [] H H'
theorem BoolsV.kept {p : Nat → Prop} {H H' : AH} {v : Value} {B : List Bool} (h : BoolsV p H v B) (hw : WF H) (hk : Keep [] H H') : BoolsV p H' v B := ⟨h.1.kept hw hk, h.2⟩
theorem BoolsV.same {p : Nat → Prop} {H H0 : AH} {v : Value} {B : List Bool} (h : BoolsV p H v B) (hs : SameC H H0) : BoolsV p H0 v B := ⟨h.1.same hs, h.2⟩
theorem BoolsV.mono {p q : Nat → Prop} {H : AH} {v : Value} {B : List Bool} (h : BoolsV p H v B) (hpq : ∀ b, p b → q b) : BoolsV q H v B := ⟨h.1.mono hpq, h.2⟩
theorem BoolsV.over {p : Nat → Prop} {H H' : AH} {v : Value} {B : List Bool} (h : BoolsV p H v B) (hk : ∀ b, p b → H'.cells b = H.cells b) : BoolsV p H' v B := ⟨h.1.over hk, h.2⟩
theorem acc_bools {H H' : AH} {T : List Bool} {out : Value} (h : Acc H T_bool 1 (T.map .bool) T.length out H') (hl : T.length ≤ 1000000) : BoolsN H T out H' := by
  obtain ⟨S, o, k, hS⟩ := h.done (by simp)
  exact ⟨⟨o.vw hS, hl⟩, k⟩
theorem bools_at {p : Nat → Prop} {H : AH} {v : Value} {B : List Bool} (h : BoolsV p H v B) (h0 : 0 < B.length) : ∃ b off sp cap cs, v = .slice (some ⟨b, off, sp⟩) B.length cap ∧ H.cells b = some cs ∧ ∀ k, k < B.length → cs[off + k]? = some (.bool (B.getD k false)) := by
  obtain ⟨b, off, sp, cap, cs, h1, h2, h3, h4, h5, h6, h7, _⟩ := h.1.at h0
  refine ⟨b, off, sp, cap, cs, h1, h4, fun k hk => ?_⟩
  rw [h6 k (by omega), List.getElem?_map, List.getElem?_eq_getElem hk, List.getD_eq_getElem?_getD, List.getElem?_eq_getElem hk]
  rfl
theorem setB_length (T : List Bool) (i : Int) (b : Bool) : (setB T i b).length = T.length := by unfold setB; split <;> simp
theorem setB_get (T : List Bool) (i : Int) (b : Bool) (k : Nat) (h : k < T.length) : (setB T i b).getD k false = if (k : Int) = i then b else T.getD k false := by
  unfold setB
  split
  · rename_i hi
    rw [getD_set _ _ _ _ (by omega)]
    by_cases hk : (k : Int) = i
    · rw [if_pos hk, if_pos (by omega)]
    · rw [if_neg hk, if_neg (by omega)]
  · rename_i hi
    rw [if_neg (by omega)]
def WithI (H : AH) (tv : Value) (T : List Bool) (i : Int) (b : Bool) (k : Nat) (env : Env) (H' : AH) : Prop :=
  env 0 = some tv ∧ env 1 = some (.int .i64 i) ∧ env 2 = some (.bool b) ∧ env 8 = some (.int .i64 k) ∧ ∃ out, env 7 = some out ∧ Acc H T_bool 1 ((setB T i b).map .bool) k out H'
def OutQ (H : AH) (R : List Bool) (e : AExit) (env : Env) (H' : AH) : Prop := e = .exit 0 ∧ ∃ out, env 7 = some out ∧ Acc H T_bool 1 (R.map .bool) R.length out H'
theorem drop_bool {R : List Bool} {k : Nat} (h : k < R.length) : (((R.map Value.bool).drop (k * 1)).take 1) = [.bool (R.getD k false)] := by
  rw [Nat.mul_one, ← List.map_drop, ← List.map_take, List.drop_eq_getElem_cons h, List.getD_eq_getElem?_getD, List.getElem?_eq_getElem h]
  rfl
theorem RefWith_spec {p : Nat → Prop} {H : AH} {tv : Value} {T : List Bool} (hT : BoolsV p H tv T) (i : Int) (b : Bool) : AFn Tryd.prog F_ref03_With [tv, .int .i64 i, .bool b] H (BoolsN H (setB T i b)) := by
  refine AFn.enter mixed ir_ref03_With_eq (by simp [ir_ref03_With]) fun hw => ?_
  obtain ⟨a, c, rfl⟩ := hT.1.slice
  have hR := setB_length T i b
  have hlen := hT.2
  simp (disch := omega) [-getElem?_pos, if_pos, if_neg, decide_eq_true, decide_eq_false, ir_ref03_With]
  refine wpC_use (loop_upto T.length (WithI H (.slice a T.length c) T i b) (Q := OutQ H (setB T i b)) ⟨by simp, by simp, by simp, by simp, .slice none 0 0, by simp, .start hw⟩ ?_) fun e env2 H2 ⟨he, out, e7, ho⟩ _ => ?_
  · rintro k env H' hk ⟨e0, e1, e2, e8, out, e7, ho⟩
    by_cases hkn : k < T.length
    · have hget := setB_get T i b k hkn
      obtain ⟨a1, c1, a2, c2, H5, rfl, p1, p2, p3, p4⟩ := ho.push (bytes := 1) [.bool ((setB T i b).getD k false)] (drop_bool (by omega)) rfl (by omega) (by omega)
      by_cases hki : (k : Int) = i
      · rw [if_pos hki] at hget
        rw [hget] at p1
        subst hki
        simp (disch := omega) [-getElem?_pos, if_pos, if_neg, decide_eq_true, decide_eq_false, ir_ref03_With_l0, e0, e1, e2, e7, e8, elemsA, cut, p1, IntWalk.i64_in]
        exact ⟨hkn, by simp [e0], by simp [e1], by simp [e2], by simp, _, rfl, p2⟩
      · rw [if_neg hki] at hget
        rw [hget] at p1
        obtain ⟨b0, off, sp, cap, cs, hsl, q1, q2⟩ := bools_at (hT.kept hw ho.2.1) (by omega)
        cases hsl
        have q3 := q2 k hkn
        generalize T.getD k false = x at *
        simp (disch := omega) [-getElem?_pos, if_pos, if_neg, decide_eq_true, decide_eq_false, ir_ref03_With_l0, e0, e1, e2, e7, e8, hki, q1, q3, elemsA, cut, p1, IntWalk.i64_in]
        exact ⟨hkn, by simp [e0], by simp [e1], by simp [e2], by simp, _, rfl, p2⟩
    · obtain rfl : k = T.length := by omega
      simp (disch := omega) [-getElem?_pos, if_pos, if_neg, decide_eq_true, decide_eq_false, ir_ref03_With_l0, e0, e8]
      exact ⟨rfl, out, e7, by rw [hR]; exact ho⟩
  · subst he
    simp (disch := omega) [-getElem?_pos, if_pos, if_neg, decide_eq_true, decide_eq_false, e7]
    exact acc_bools ho (by omega)
theorem RefHas_spec {p : Nat → Prop} {H : AH} {tv : Value} {T : List Bool} (hT : BoolsV p H tv T) (i : Int) : AFn Tryd.prog F_ref03_Has [tv, .int .i64 i] H fun u H' => u = .bool (hasB T i) ∧ H' = H := by
  refine AFn.enter mixed ir_ref03_Has_eq (by simp [ir_ref03_Has]) fun hw => ?_
  obtain ⟨a, c, rfl⟩ := hT.1.slice
  by_cases h0 : 0 ≤ i
  · obtain ⟨m, rfl⟩ := Int.eq_ofNat_of_zero_le h0
    by_cases h1 : m < T.length
    · obtain ⟨b0, off, sp, cap, cs, hsl, q1, q2⟩ := bools_at hT (by omega)
      cases hsl
      have q3 := q2 m h1
      have : hasB T (m : Int) = T.getD m false := by simp [hasB]
      rw [this]
      generalize T.getD m false = x at *
      simp (disch := omega) [-getElem?_pos, if_pos, if_neg, decide_eq_true, decide_eq_false, ir_ref03_Has, q1, q3]
    · have : hasB T (m : Int) = false := by
        simp only [hasB, Int.toNat_natCast, List.getD_eq_getElem?_getD, List.getElem?_eq_none (show T.length ≤ m by omega)]
        simp
      rw [this]
      simp (disch := omega) [-getElem?_pos, if_pos, if_neg, decide_eq_true, decide_eq_false, ir_ref03_Has]
  · have : hasB T i = false := by simp [hasB, h0]
    rw [this]
    simp (disch := omega) [-getElem?_pos, if_pos, if_neg, decide_eq_true, decide_eq_false, ir_ref03_Has]
def NextI (tv : Value) (T : List Bool) (i : Int) (H0 : AH) (k : Nat) (env : Env) (H' : AH) : Prop :=
  H' = H0 ∧ env 0 = some tv ∧ env 1 = some (.int .i64 i) ∧ env 5 = some (.int .i64 k) ∧ ∀ j, i.toNat ≤ j → j < k → T.getD j false = false
def NextQ (r : Int) (H0 : AH) (e : AExit) (env : Env) (H' : AH) : Prop := H' = H0 ∧ ((e = .exit 0 ∧ r = -1) ∨ (e = .ret ∧ env 4 = some (.int .i64 r)))
theorem RefNext_spec {p : Nat → Prop} {H : AH} {tv : Value} {T : List Bool} (hT : BoolsV p H tv T) (i r : Int) (hr : NextIs T i.toNat r) : AFn Tryd.prog F_ref03_Next [tv, .int .i64 i] H fun u H' => u = .int .i64 r ∧ H' = H := by
  refine AFn.enter mixed ir_ref03_Next_eq (by simp [ir_ref03_Next]) fun hw => ?_
  obtain ⟨a, c, rfl⟩ := hT.1.slice
  have hlen := hT.2
  simp (disch := omega) [-getElem?_pos, if_pos, if_neg, decide_eq_true, decide_eq_false, ir_ref03_Next]
  refine wpC_use (loop_upto T.length (NextI (.slice a T.length c) T i H) (Q := NextQ r H) ⟨rfl, by simp, by simp, by simp, fun j h1 h2 => by omega⟩ ?_) fun e env2 H2 ⟨rfl, he⟩ _ => ?_
  · rintro k env H' hk ⟨rfl, e0, e1, e5, hno⟩
    by_cases hkn : k < T.length
    · obtain ⟨b0, off, sp, cap, cs, hsl, q1, q2⟩ := bools_at hT (by omega)
      cases hsl
      have q3 := q2 k hkn
      by_cases hik : i ≤ k
      · cases hx : T.getD k false with
        | true =>
          rw [hx] at q3
          simp (disch := omega) [-getElem?_pos, if_pos, if_neg, decide_eq_true, decide_eq_false, ir_ref03_Next_l0, e0, e1, e5, q1, q3, hik]
          refine ⟨rfl, .inr ⟨rfl, ?_⟩⟩
          rw [hr.unique (.inr ⟨k, rfl, by omega, hkn, hx, hno⟩)]
          simp
        | false =>
          rw [hx] at q3
          simp (disch := omega) [-getElem?_pos, if_pos, if_neg, decide_eq_true, decide_eq_false, ir_ref03_Next_l0, e0, e1, e5, q1, q3, hik, IntWalk.i64_in]
          refine ⟨hkn, rfl, by simp [e0], by simp [e1], by simp, fun j h1 h2 => ?_⟩
          by_cases hj : j = k
          · rw [hj]; exact hx
          · exact hno j h1 (by omega)
      · simp (disch := omega) [-getElem?_pos, if_pos, if_neg, decide_eq_true, decide_eq_false, ir_ref03_Next_l0, e0, e1, e5, hik, IntWalk.i64_in]
        exact ⟨hkn, rfl, by simp [e0], by simp [e1], by simp, fun j h1 h2 => by omega⟩
    · simp (disch := omega) [-getElem?_pos, if_pos, if_neg, decide_eq_true, decide_eq_false, ir_ref03_Next_l0, e0, e5]
      refine ⟨rfl, .inl ⟨rfl, hr.unique (.inl ⟨rfl, fun j hj => ?_⟩)⟩⟩
      by_cases hjk : j < k
      · exact hno j hj hjk
      · rw [List.getD_eq_getElem?_getD, List.getElem?_eq_none (by omega)]; rfl
  · rcases he with ⟨rfl, rfl⟩ | ⟨rfl, h4⟩
    · simp (disch := omega) [-getElem?_pos, if_pos, if_neg, decide_eq_true, decide_eq_false, ]
    · simp (disch := omega) [-getElem?_pos, if_pos, if_neg, decide_eq_true, decide_eq_false, h4]
def ListRI (H : AH) (tv : Value) (T : List Bool) (k : Nat) (env : Env) (H' : AH) : Prop :=
  env 0 = some tv ∧ env 4 = some (.int .i64 k) ∧ ∃ out, env 3 = some out ∧ Acc H T_int 1 ((idxs T).map fun k => .int .i64 (k : Nat)) (idxTo T k).length out H'
def ListRQ (H : AH) (T : List Bool) (e : AExit) (env : Env) (H' : AH) : Prop :=
  e = .exit 0 ∧ ∃ out, env 3 = some out ∧ Acc H T_int 1 ((idxs T).map fun k => .int .i64 (k : Nat)) (idxs T).length out H'
theorem idxs_split (T : List Bool) (k : Nat) (h : k ≤ T.length) : ∃ l, idxs T = idxTo T k ++ l := by
  obtain ⟨n, hn⟩ : ∃ n, T.length = k + n := ⟨T.length - k, by omega⟩
  unfold idxs idxTo
  rw [hn, List.range_add, List.filter_append]
  exact ⟨_, rfl⟩
theorem RefList_spec {p : Nat → Prop} {H : AH} {tv : Value} {T : List Bool} (hT : BoolsV p H tv T) : AFn Tryd.prog F_ref03_List [tv] H fun u H' =>
    ∃ S, Own H' T_int 1 u (idxs T).length ((idxs T).map fun k => .int .i64 (k : Nat)) S ∧ Keep [] H H' ∧ ∀ b ∈ S, H.next ≤ b := by
  refine AFn.enter mixed ir_ref03_List_eq (by simp [ir_ref03_List]) fun hw => ?_
  obtain ⟨a, c, rfl⟩ := hT.1.slice
  have hlen := hT.2
  simp (disch := omega) [-getElem?_pos, if_pos, if_neg, decide_eq_true, decide_eq_false, ir_ref03_List]
  refine wpC_use (loop_upto T.length (ListRI H (.slice a T.length c) T) (Q := ListRQ H T) ⟨by simp, by simp, .slice none 0 0, by simp, .start hw⟩ ?_) fun e env2 H2 ⟨he, out, e7, ho⟩ _ => ?_
  · rintro k env H' hk ⟨e0, e4, out, e3, ho⟩
    by_cases hkn : k < T.length
    · obtain ⟨b0, off, sp, cap, cs, hsl, q1, q2⟩ := bools_at (hT.kept hw ho.2.1) (by omega)
      cases hsl
      have q3 := q2 k hkn
      have hl := idxTo_length T k
      cases hx : T.getD k false with
      | true =>
        have ht := idxTo_take hx
        obtain ⟨l, hl2⟩ := idxs_split T (k + 1) hkn
        obtain ⟨a1, c1, a2, c2, H5, rfl, p1, p2, p3, p4⟩ := ho.push (bytes := 8) [.int .i64 (k : Nat)] (by rw [hl2, ht]; simp) rfl (by omega) (by omega)
        rw [hx] at q3
        have hl3 : (idxTo T (k + 1)).length = (idxTo T k).length + 1 := by rw [ht]; simp
        simp (disch := omega) [-getElem?_pos, if_pos, if_neg, decide_eq_true, decide_eq_false, ir_ref03_List_l0, e0, e4, e3, q1, q3, elemsA, cut, p1, IntWalk.i64_in]
        exact ⟨hkn, by simp [e0], by simp, _, rfl, by rw [hl3]; exact p2⟩
      | false =>
        rw [hx] at q3
        have ht : idxTo T (k + 1) = idxTo T k := idxTo_skip (by omega) fun j h1 h2 => by rw [show j = k by omega]; exact hx
        simp (disch := omega) [-getElem?_pos, if_pos, if_neg, decide_eq_true, decide_eq_false, ir_ref03_List_l0, e0, e4, e3, q1, q3, IntWalk.i64_in]
        exact ⟨hkn, by simp [e0], by simp, out, by simp [e3], by rw [ht]; exact ho⟩
    · obtain rfl : k = T.length := by omega
      simp (disch := omega) [-getElem?_pos, if_pos, if_neg, decide_eq_true, decide_eq_false, ir_ref03_List_l0, e0, e4]
      exact ⟨rfl, out, e3, ho⟩
  · subst he
    simp (disch := omega) [-getElem?_pos, if_pos, if_neg, decide_eq_true, decide_eq_false, e7]
    exact ho.done (by simp)
def eachOp (how : Int) (a b : Bool) : Bool := if how = 2 then a && !b else if how = 1 then a && b else a || b
def EachI (H : AH) (sv ov : Value) (A B : List Bool) (how : Int) (k : Nat) (env : Env) (H' : AH) : Prop :=
  env 0 = some sv ∧ env 1 = some ov ∧ env 2 = some (.int .i64 how) ∧ env 8 = some (.int .i64 k) ∧ ∃ out, env 7 = some out ∧ Acc H T_bool 1 ((eachB (eachOp how) A B).map .bool) k out H'
theorem RefEach_spec {p q : Nat → Prop} {H : AH} {sv ov : Value} {A B : List Bool} (hA : BoolsV p H sv A) (hB : BoolsV q H ov B) (how : Int) (hh : how = 0 ∨ how = 1 ∨ how = 2) : AFn Tryd.prog F_ref03_Each [sv, ov, .int .i64 how] H (BoolsN H (eachB (eachOp how) A B)) := by
  refine AFn.enter mixed ir_ref03_Each_eq (by simp [ir_ref03_Each]) fun hw => ?_
  obtain ⟨a, c, rfl⟩ := hA.1.slice
  have hR := eachB_length (eachOp how) A B
  have hlen := hA.2
  simp (disch := omega) [-getElem?_pos, if_pos, if_neg, decide_eq_true, decide_eq_false, ir_ref03_Each]
  refine wpC_use (loop_upto A.length (EachI H (.slice a A.length c) ov A B how) (Q := OutQ H (eachB (eachOp how) A B)) ⟨by simp, by simp, by simp, by simp, .slice none 0 0, by simp, .start hw⟩ ?_) fun e env2 H2 ⟨he, out, e7, ho⟩ _ => ?_
  · rintro k env H' hk ⟨e0, e1, e2, e8, out, e7, ho⟩
    by_cases hkn : k < A.length
    · have hget := eachB_get (eachOp how) A B k
      rw [if_pos hkn] at hget
      obtain ⟨a1, c1, a2, c2, H5, rfl, p1, p2, p3, p4⟩ := ho.push (bytes := 1) [.bool ((eachB (eachOp how) A B).getD k false)] (drop_bool (by omega)) rfl (by omega) (by omega)
      obtain ⟨b0, off, sp, cap, cs, hsl, q1, q2⟩ := bools_at (hA.kept hw ho.2.1) (by omega)
      cases hsl
      have q3 := q2 k hkn
      have hhb : hasB B (k : Int) = B.getD k false := by simp [hasB]
      rw [hget] at p1
      simp (disch := omega) [-getElem?_pos, if_pos, if_neg, decide_eq_true, decide_eq_false, ir_ref03_Each_l0, e0, e1, e2, e7, e8]
      refine AFn.pure (RefHas_spec (hB.kept hw ho.2.1) k) ?_
      rw [hhb]
      have fin : ∀ b, eachOp how (A.getD k false) (B.getD k false) = b → eachOp how (A.getD k false) (B.getD k false) = b := fun _ h => h
      generalize A.getD k false = x at *
      generalize B.getD k false = y at *
      rcases hh with rfl | rfl | rfl
      · cases x <;> cases y <;> simp [eachOp] at p1 <;> simp (disch := omega) [-getElem?_pos, if_pos, if_neg, decide_eq_true, decide_eq_false, e0, e1, e2, e7, e8, q1, q3, elemsA, cut, p1, IntWalk.i64_in] <;>
          exact ⟨hkn, by simp [e0], by simp [e1], by simp [e2], by simp, _, rfl, p2⟩
      · cases x <;> cases y <;> simp [eachOp] at p1 <;> simp (disch := omega) [-getElem?_pos, if_pos, if_neg, decide_eq_true, decide_eq_false, e0, e1, e2, e7, e8, q1, q3, elemsA, cut, p1, IntWalk.i64_in] <;>
          exact ⟨hkn, by simp [e0], by simp [e1], by simp [e2], by simp, _, rfl, p2⟩
      · cases x <;> cases y <;> simp [eachOp] at p1 <;> simp (disch := omega) [-getElem?_pos, if_pos, if_neg, decide_eq_true, decide_eq_false, e0, e1, e2, e7, e8, q1, q3, elemsA, cut, p1, IntWalk.i64_in] <;>
          exact ⟨hkn, by simp [e0], by simp [e1], by simp [e2], by simp, _, rfl, p2⟩
    · obtain rfl : k = A.length := by omega
      simp (disch := omega) [-getElem?_pos, if_pos, if_neg, decide_eq_true, decide_eq_false, ir_ref03_Each_l0, e0, e8]
      exact ⟨rfl, out, e7, by rw [hR]; exact ho⟩
  · subst he
    simp (disch := omega) [-getElem?_pos, if_pos, if_neg, decide_eq_true, decide_eq_false, e7]
    exact acc_bools ho (by omega)
end Go.Proofs.YtakdkbdjjlmccaaDoor
