/-
  Layer 14: the document's Answer; the same states; ways.
-/
import Derived.Test.YtlcddhgfkkjhkaaDoorRef14c
import Derived.Test.YtlcddhgfkkjhkaaDoorEq13
set_option maxRecDepth 100000
set_option linter.unusedSimpArgs false
set_option linter.unusedVariables false
namespace Go.Proofs.YtlcddhgfkkjhkaaDoor
open Go Go.Abs
def raL (x : InstD) (L : List Int) (k : Nat) : List Int := if x.kind = 1 then L.take k else if x.kind = 2 then 0 :: L.take k else onesL L k
def RaI (H : AH) (q q3 : Nat) (x : InstD) (L : List Int) (k : Nat) (env : Env) (H' : AH) : Prop :=
  env 2 = some (.pointer (some ⟨q, 0, none⟩)) ∧ env 3 = some (.pointer (some ⟨q3, 0, none⟩)) ∧ env 8 = some (.int .i64 k) ∧ WF H' ∧ ∃ ov S, env 7 = some ov ∧ OwnL (fun _ => False) H' T_int ov (raL x L k) S ∧ Keep [] H H' ∧ ∀ b ∈ S, H.next ≤ b
def RaQ (H : AH) (x : InstD) (L : List Int) (e : AExit) (env : Env) (H' : AH) : Prop := e = .exit 0 ∧ ∃ ov, env 7 = some ov ∧ NewL H ov (raL x L L.length) H'
theorem raL_len {x : InstD} {L : List Int} {k : Nat} : (raL x L k).length ≤ k + 1 := by
  unfold raL
  have := onesL_len (L := L) (k := k)
  split
  · rw [List.length_take]; omega
  · split
    · rw [List.length_cons, List.length_take]; omega
    · omega
theorem ranswer_l0 {p : Nat → Prop} {H H1 : AH} {q q3 : Nat} {x : InstD} {i1 i2 i3 i4 i5 pv a b c d : Value} {L : List Int} (hw : WF H) (hq : H.cells q = some [.int .i64 x.kind, i1, i2, i3, i4, i5]) (hq3 : H.cells q3 = some [pv, a, b, c, d]) (hL : SlV p H pv L) (hl : L.length ≤ 5000) {env : Env} (h : RaI H q q3 x L 0 env H1) :
    wpC Tryd.prog 54 (.loop ir_ref14_Answer_l0) (RaQ H x L) env H1 := by
  refine loop_upto L.length (RaI H q q3 x L) (Q := RaQ H x L) h ?_
  rintro k env H' hk ⟨e2, e3, e8, w', ov, S, e7, hA, hK, hS⟩
  have cq := cells_kept hw hK hq
  have cq3 := cells_kept hw hK hq3
  by_cases hkn : k < L.length
  · obtain ⟨b0, off, sp, cap, cs, hcv, q1, q2⟩ := ints_rd (hL.kept hw hK) (by omega)
    obtain ⟨q3', q4⟩ := q2 k hkn
    subst hcv
    have hgk : L.getD k 0 = L[k] := by rw [List.getD_eq_getElem?_getD, List.getElem?_eq_getElem hkn]; rfl
    have hsu := onesL_succ (L := L) (k := k)
    have htk := List.take_succ_eq_append_getElem hkn
    have hrl := raL_len (x := x) (L := L) (k := k)
    rw [hgk] at hsu
    obtain ⟨oa, oc, rfl⟩ := hA.slice
    have push : ∀ (a : Int), I64 a → raL x L (k + 1) = raL x L k ++ [a] → ∃ va vc H2 S', appendA (H'.alloc (.row [.int .i64 a] T_int true)) T_int 1 8 (.slice oa (raL x L k).length oc) 1 [.int .i64 a] = some (.slice va ((raL x L k).length + 1) vc, H2) ∧ elemsA (H'.alloc (.row [.int .i64 a] T_int true)) 1 (.slice (some ⟨H'.next, 0, none⟩) 1 1) = some [.int .i64 a] ∧ WF H2 ∧ OwnL (fun _ => False) H2 T_int (.slice va ((raL x L k).length + 1) vc) (raL x L (k + 1)) S' ∧ Keep [] H H2 ∧ ∀ b ∈ S', H.next ≤ b := fun a ha he => by
      obtain ⟨va, vc, H2, S', p1, w2, hA', k2, hS', _⟩ := push_i64 w' hA hK hS ha (by omega)
      exact ⟨va, vc, H2, S', p1, elems_one rfl, w2, by rw [he]; exact hA', k2, hS'⟩
    by_cases hk1 : x.kind = 1
    · have hkT := eq_true hk1
      obtain ⟨va, vc, H2, S', p1, pE, w2, hA', k2, hS'⟩ := push L[k] q4 (by unfold raL; rw [if_pos hk1, if_pos hk1, htk])
      generalize L[k] = z at *
      simp (disch := omega) [-getElem?_pos, if_pos, if_neg, decide_eq_true, decide_eq_false, ir_ref14_Answer_l0, e2, e3, e7, e8, cq, cq3, q1, q3', hkn, hkT, pE, p1, IntWalk.i64_in]
      exact ⟨by simp [e2], by simp [e3], by simp, w2, _, S', by simp, hA', k2, hS'⟩
    · have hkF := eq_false hk1
      by_cases hk2 : x.kind = 2
      · have hkT := eq_true hk2
        obtain ⟨va, vc, H2, S', p1, pE, w2, hA', k2, hS'⟩ := push L[k] q4 (by unfold raL; rw [if_neg hk1, if_neg hk1, if_pos hk2, if_pos hk2, htk]; rfl)
        generalize L[k] = z at *
        simp (disch := omega) [-getElem?_pos, if_pos, if_neg, decide_eq_true, decide_eq_false, ir_ref14_Answer_l0, e2, e3, e7, e8, cq, cq3, q1, q3', hkn, hkF, hkT, pE, p1, IntWalk.i64_in]
        exact ⟨by simp [e2], by simp [e3], by simp, w2, _, S', by simp, hA', k2, hS'⟩
      · have hk2F := eq_false hk2
        by_cases hz : L[k] = 1
        · have hzT := eq_true hz
          obtain ⟨va, vc, H2, S', p1, pE, w2, hA', k2, hS'⟩ := push (k : Int) (by unfold I64; omega) (by unfold raL; rw [if_neg hk1, if_neg hk1, if_neg hk2, if_neg hk2, hsu, if_pos hz])
          generalize L[k] = z at *
          simp (disch := omega) [-getElem?_pos, if_pos, if_neg, decide_eq_true, decide_eq_false, ir_ref14_Answer_l0, e2, e3, e7, e8, cq, cq3, q1, q3', hkn, hkF, hk2F, hzT, pE, p1, IntWalk.i64_in]
          exact ⟨by simp [e2], by simp [e3], by simp, w2, _, S', by simp, hA', k2, hS'⟩
        · have hzF := eq_false hz
          have he : raL x L (k + 1) = raL x L k := by unfold raL; rw [if_neg hk1, if_neg hk1, if_neg hk2, if_neg hk2, hsu, if_neg hz]
          generalize L[k] = z at *
          simp (disch := omega) [-getElem?_pos, if_pos, if_neg, decide_eq_true, decide_eq_false, ir_ref14_Answer_l0, e2, e3, e7, e8, cq, cq3, q1, q3', hkn, hkF, hk2F, hzF, IntWalk.i64_in]
          exact ⟨by simp [e2], by simp [e3], by simp, w', .slice oa (raL x L k).length oc, S, by simp [e7], by rw [he]; exact hA, hK, hS⟩
  · obtain rfl : k = L.length := by omega
    obtain ⟨pa, pc, rfl⟩ := hL.slice
    simp (disch := omega) [-getElem?_pos, if_pos, if_neg, decide_eq_true, decide_eq_false, ir_ref14_Answer_l0, e3, e8, cq3]
    exact ⟨rfl, ov, e7, S, hA, hK, hS⟩
theorem RAnswer_spec {H : AH} {v w : Value} {s : StD} {x : InstD} (hs : RsV (fun b => b < H.next) H w s) (hx : InstV (fun b => b < H.next) H v x) (hpl : s.path.length ≤ 5000) : AFn Tryd.prog F_ref14_Answer [v, w] H fun u H' => ∃ av, u = .tuple #[av, .bool (x.done s)] ∧ NewL H av (x.answer s) H' := by
  obtain ⟨pv, bv, rfl, s1, s2⟩ := id hs
  obtain ⟨iv, cv, sv, rfl, i1, i2, i3, h1, h2, h3⟩ := id hx
  have hcb := s2.cell
  have hcp := s1.cell
  have hcc := h2.cell
  have hci := h1.cell
  have hcs := h3.cell
  refine AFn.enter mixed ir_ref14_Answer_eq (by simp [ir_ref14_Answer]) fun hw => ?_
  simp (disch := omega) [-getElem?_pos, if_pos, if_neg, decide_eq_true, decide_eq_false, ir_ref14_Answer, hcb.1, hcp.1, hcc.1, hci.1, hcs.1, cut5', cut6']
  generalize hq : H.next = q at *
  generalize hH1 : AH.alloc (AH.alloc _ _) _ = H1
  have k1 : Keep [] H H1 := by rw [← hH1]; exact .new_alloc .alloc
  have w1 : WF H1 := by rw [← hH1]; exact hw.alloc.alloc
  have n1 : H1.next = q + 2 := by rw [← hH1]; simp [hq]
  have d0 : H1.cells q = some [.int .i64 x.kind, .int .i64 x.cap, iv, cv, .int .i64 x.size, sv] := by rw [← hH1]; simp [hq]
  have d1 : H1.cells (q + 1) = some [pv, .int .i64 s.cost, .int .i64 s.left, .int .i64 s.pos, bv] := by rw [← hH1]; simp [hq]
  clear hH1
  refine AFn.pure (RDone_spec (hs.kept hw k1).any (hx.kept hw k1).any) ?_
  have up : ∀ {u : Value} {L : List Int} {H' : AH}, NewL H1 u L H' → NewL H u L H' := fun ⟨S, a, b, c⟩ => ⟨S, a, k1.trans' b, fun z hz => by have := c z hz; omega⟩
  have han : x.done s = true → x.answer s = raL x s.path s.path.length := fun hd => by
    unfold InstD.answer raL
    rw [if_pos hd, List.take_length]; rfl
  cases hdn : x.done s with
  | false =>
    have : x.answer s = [] := by unfold InstD.answer; rw [hdn]; rfl
    rw [this]
    simp (disch := omega) [-getElem?_pos, if_pos, if_neg, decide_eq_true, decide_eq_false, ]
    exact ⟨[], .nil, k1, by simp⟩
  | true =>
    rw [han hdn]
    by_cases hk2 : x.kind = 2
    · have hkT := eq_true hk2
      obtain ⟨va, vc, H2, S', p1, w2, hA', k2, hS', _⟩ := push_i64 (ty := T_int) (H := H1) (L := []) w1 .nil .refl (by simp) (a := 0) (by unfold I64; omega) (by simp)
      have pE : elemsA (H1.alloc (.row [.int .i64 0] T_int true)) 1 (.slice (some ⟨H1.next, 0, none⟩) 1 1) = some [.int .i64 0] := elems_one rfl
      simp (disch := omega) [-getElem?_pos, if_pos, if_neg, decide_eq_true, decide_eq_false, d0, hkT, pE, p1]
      refine wpC_use (ranswer_l0 (p := fun b => b < q) (H := H1) (x := x) (L := s.path) w1 d0 d1 (s1.kept hw k1) hpl ⟨by simp, by simp, by simp, w2, _, S', by simp; rfl, by unfold raL; rw [if_neg (by omega), if_pos hk2, List.take_zero]; exact hA', k2, hS'⟩) ?_
      rintro e env2 H3 ⟨rfl, ov, e7, hN⟩ hu
      obtain ⟨S, hA, _⟩ := id hN
      have hcA := hA.cell
      simp (disch := omega) [-getElem?_pos, if_pos, if_neg, decide_eq_true, decide_eq_false, e7, hcA]
      exact up hN
    · have hkF := eq_false hk2
      simp (disch := omega) [-getElem?_pos, if_pos, if_neg, decide_eq_true, decide_eq_false, d0, hkF]
      refine wpC_use (ranswer_l0 (p := fun b => b < q) (H := H1) (x := x) (L := s.path) w1 d0 d1 (s1.kept hw k1) hpl ⟨by simp, by simp, by simp, w1, .slice none 0 0, [], by simp, ?_, .refl, by simp⟩) ?_
      · have : raL x s.path 0 = [] := by unfold raL onesL; rw [if_neg hk2]; split <;> simp
        rw [this]; exact .nil
      rintro e env2 H3 ⟨rfl, ov, e7, hN⟩ hu
      obtain ⟨S, hA, _⟩ := id hN
      have hcA := hA.cell
      simp (disch := omega) [-getElem?_pos, if_pos, if_neg, decide_eq_true, decide_eq_false, e7, hcA]
      exact up hN
def SmI (H : AH) (q : Nat) (bv : Value) (B : List Bool) (k : Nat) (env : Env) (H' : AH) : Prop :=
  H' = H ∧ env 2 = some (.pointer (some ⟨q, 0, none⟩)) ∧ env 44 = some bv ∧ env 45 = some (.int .i64 B.length) ∧ env 46 = some (.int .i64 k)
theorem same14_spec {H : AH} {v w : Value} {s : StD} (hs : StV (fun _ => True) H v s) (ht : RsV (fun _ => True) H w s) : AFn Tryd.prog F_law14_same [v, w] H fun u H' => u = .bool true ∧ H' = H := by
  refine AFn.calm (fun H0 hsm => ?_) rfl
  have hs0 := hs.same hsm
  have ht0 := ht.same hsm
  obtain ⟨pv, uv, rfl, s1, s2⟩ := id hs0
  obtain ⟨qv, bv, rfl, t1, t2⟩ := id ht0
  have hc := SetB_cell s2
  have hcp := s1.cell
  have hcb := t2.cell
  have hcq := t1.cell
  obtain ⟨ba, bc, rfl⟩ := t2.slice
  have hbm := t2.max
  refine AFn.enter mixed ir_law14_same_eq (by simp [ir_law14_same]) fun hw => ?_
  simp (disch := omega) [-getElem?_pos, if_pos, if_neg, decide_eq_true, decide_eq_false, ir_law14_same, hc.1, hcp.1, hcq.1]
  generalize hH1 : AH.alloc (AH.alloc H0 _) _ = H1
  have k1 : Keep [] H0 H1 := by rw [← hH1]; exact .new_alloc .alloc
  have w1 : WF H1 := by rw [← hH1]; exact hw.alloc.alloc
  have d0 : H1.cells H0.next = some [pv, .int .i64 s.cost, .int .i64 s.left, .int .i64 s.pos, .int .i64 s.used.length, uv] := by rw [← hH1]; simp
  have d1 : H1.cells (H0.next + 1) = some [qv, .int .i64 s.cost, .int .i64 s.left, .int .i64 s.pos, .slice ba s.used.length bc] := by rw [← hH1]; simp
  clear hH1
  have s21 := SetB_sub s2 (q := fun _ => True) (fun _ h => h) (.kept hw k1)
  have t21 := t2.kept hw k1
  refine AFnD.of (equal13_spec (s1.kept hw k1) (t1.kept hw k1)) ?_
  have hSz := Bs.Size_spec s21
  generalize s.cost = a1 at *
  generalize s.left = a2 at *
  generalize s.pos = a3 at *
  simp (disch := omega) [-getElem?_pos, if_pos, if_neg, decide_eq_true, decide_eq_false, d0, d1, cut42]
  refine AFnD.of hSz ?_
  simp (disch := omega) [-getElem?_pos, if_pos, if_neg, decide_eq_true, decide_eq_false, d1]
  refine wpC_use (loop_upto s.used.length (SmI H1 H0.next (.slice ba s.used.length bc) s.used) (Q := fun e env H' => e = .exit 0 ∧ H' = H1) ⟨rfl, by simp, by simp, by simp, by simp⟩ ?_) ?_
  · rintro k env H' hk ⟨rfl, e2, e44, e45, e46⟩
    by_cases hkn : k < s.used.length
    · obtain ⟨b0, off, sp, cap, cs, hcv, q1, q2⟩ := bools_rd t21 (by omega)
      have q3 := q2 k hkn
      cases hcv
      have hHas := Bs.Has_spec s21 (k : Int)
      have hhe : Bs.hasB s.used (k : Int) = s.used[k] := by
        unfold Bs.hasB
        rw [Int.toNat_natCast, List.getD_eq_getElem?_getD, List.getElem?_eq_getElem hkn]
        simp
      rw [hhe] at hHas
      generalize s.used[k] = z at *
      simp (disch := omega) [-getElem?_pos, if_pos, if_neg, decide_eq_true, decide_eq_false, ir_law14_same_l0, e2, e44, e45, e46, q1, q3, hkn, d0, cut42, IntWalk.i64_in]
      refine AFn.pure hHas ?_
      cases z <;> (simp (disch := omega) [-getElem?_pos, if_pos, if_neg, decide_eq_true, decide_eq_false, e46, IntWalk.i64_in]; exact ⟨hkn, rfl, by simp [e2], by simp [e44], by simp [e45], by simp⟩)
    · obtain rfl : k = s.used.length := by omega
      simp (disch := omega) [-getElem?_pos, if_pos, if_neg, decide_eq_true, decide_eq_false, ir_law14_same_l0, e45, e46]
  · rintro e env2 H2 ⟨rfl, rfl⟩ hu
    simp (disch := omega) [-getElem?_pos, if_pos, if_neg, decide_eq_true, decide_eq_false, ]
theorem replayF_snoc {x : InstD} {d : Int} : ∀ {P : List Int} {s : StD} {i j : Nat} {t : StD}, x.replayF s i P = (t, j, true) → d ∈ x.moves t → x.replayF s i (P ++ [d]) = (x.applyS t d, 0, true)
  | [], s, i, j, t, h, hd => by
    cases h
    rw [List.nil_append, replay_step, if_pos hd]; rfl
  | a :: l, s, i, j, t, h, hd => by
    rw [replay_step] at h
    rw [List.cons_append, replay_step]
    split at h
    · rename_i ha
      rw [if_pos ha]
      exact replayF_snoc h hd
    · cases h
theorem replayF_ok {x : InstD} (hok : x.Ok) : ∀ {P : List Int} {s : StD} {i j : Nat} {t : StD}, StOk x s → x.replayF s i P = (t, j, true) → StOk x t ∧ t.path = s.path ++ P
  | [], s, i, j, t, hs, h => by cases h; exact ⟨hs, by simp⟩
  | a :: l, s, i, j, t, hs, h => by
    rw [replay_step] at h
    split at h
    · rename_i ha
      obtain ⟨h1, h2⟩ := replayF_ok hok (apply_ok hok hs ha) h
      exact ⟨h1, by rw [h2, apply_path]; simp⟩
    · cases h
theorem moves_i64 {x : InstD} {s : StD} (hs : s.used.length ≤ 4096) {d : Int} (hd : d ∈ x.moves s) : I64 d := by
  unfold InstD.moves at hd
  split at hd
  · simp at hd
  · split at hd
    · split at hd <;> (simp at hd; unfold I64; omega)
    · split at hd
      · split at hd <;> (simp at hd <;> (unfold I64; omega))
      · have := freeL_mem.1 hd
        unfold I64; omega
theorem copyOwn {p : Nat → Prop} {H : AH} {v : Value} {l : List Int} (h : SlV p H v l) {id : Nat} (hid : id < H.next) {ty : Nat} (hl : l.length ≤ 1000) : ∃ a c w Hx S, v = .slice a l.length c ∧ elemsA H 1 v = some (l.map (.int .i64)) ∧ appendAt id H ty 1 8 (.slice none 0 0) l.length (l.map (.int .i64)) = some (w, Hx) ∧
    OwnL (fun _ => False) Hx ty w l S ∧ (S = [] ∨ S = [id]) ∧ Hx.next = H.next ∧ (∀ b, b ≠ id → Hx.blk b = H.blk b) := by
  obtain ⟨a, c, rfl⟩ := h.slice
  obtain ⟨_, _, _, _, _, he, _⟩ := copyAt h hid (ty := ty) hl
  have hI : ∀ y ∈ l, I64 y := fun y hy => by
    obtain ⟨i, hi, rfl⟩ := List.getElem_of_mem hy
    obtain ⟨_, cells, _, h2⟩ := h
    exact (h2 i hi).2
  by_cases hn : l.length = 0
  · have hl0 : l = [] := List.eq_nil_of_length_eq_zero hn
    subst hl0
    exact ⟨a, c, .slice none 0 0, H, [], rfl, he, rfl, .nil, .inl rfl, rfl, fun _ _ => rfl⟩
  · refine ⟨a, c, .slice (some ⟨id, 0, some 1⟩) l.length l.length, H.set id (.row (l.map (.int .i64)) ty true), [id], rfl, he, ?_, ⟨l.map (.int .i64), .inr ⟨id, 0, some 1, l.length, _, rfl, rfl, AH.set_blk_same, by simp, Nat.le_refl _, by rw [List.drop_zero, List.take_of_length_le (by simp)], .inr rfl⟩, fun i hi => ⟨?_, hI _ (List.getElem_mem _)⟩, by simp⟩, .inr rfl, rfl, fun b hb => AH.set_blk_ne hb⟩
    · simp only [appendAt, hn, if_false]
      rw [if_pos ⟨by omega, by omega⟩]
      simp only [AH.allocAt_if, if_pos hid]
    · apply List.ext_getElem?
      intro j
      simp only [sz_int, chunk, Nat.mul_one]
      by_cases hj : j = 0
      · subst hj
        rw [List.getElem?_take_of_lt (by omega), List.getElem?_drop, Nat.add_zero, List.getElem?_map, List.getElem?_eq_getElem hi]; rfl
      · rw [List.getElem?_eq_none (by simp; omega), List.getElem?_eq_none (by simp; omega)]
def WaI (H0 : AH) (q : Nat) (x : InstD) (kv : Value) (N : Nat) (k : Nat) (env : Env) (H' : AH) : Prop :=
  env 2 = some (.pointer (some ⟨q, 0, none⟩)) ∧ env 16 = some kv ∧ env 17 = some (.int .i64 N) ∧ env 18 = some (.int .i64 k) ∧ WF H' ∧ ∃ wv W s, env 5 = some wv ∧ NewL H0 wv W H' ∧ W.length = k ∧ x.replay W = (s, 0, true)
def WaQ (H0 : AH) (e : AExit) (env : Env) (H' : AH) : Prop := e = .exit 0 ∧ ∃ wv W, env 5 = some wv ∧ NewL H0 wv W H' ∧ W.length ≤ 20
theorem way_l0 {p : Nat → Prop} {H0 H1 : AH} {q : Nat} {x : InstD} {iv cv sv kv : Value} {K : List Int} (hw : WF H0) (hq : H0.cells q = some [.int .i64 x.kind, .int .i64 x.cap, iv, cv, .int .i64 x.size, sv]) (hx : InstV (fun b => b < H0.next) H0 (.agg #[.int .i64 x.kind, .int .i64 x.cap, iv, cv, .int .i64 x.size, sv]) x) (hok : x.Ok) (hK : SlV p H0 kv K) (hKl : K.length ≤ 20)
    {env : Env} (h : WaI H0 q x kv K.length 0 env H1) : wpC Tryd.prog 49 (.loop ir_law14_way_l0) (WaQ H0) env H1 := by
  refine loop_upto K.length (WaI H0 q x kv K.length) (Q := WaQ H0) h ?_
  rintro k env H' hk ⟨e2, e16, e17, e18, w', wv, W, s, e5, ⟨S, hW, kW, hS⟩, hWl, hr⟩
  have hn' := kW.next
  obtain ⟨hso, hpath⟩ := replayF_ok hok (start_ok hok) (show x.replayF x.start 0 W = (s, 0, true) from hr)
  have hus := hso.used
  have hsl := slots_le hok
  by_cases hkn : k < K.length
  · obtain ⟨b0, off, sp, cap, cs, hcv, q1, q2⟩ := ints_rd (hK.kept hw kW) (by omega)
    obtain ⟨q3, q4⟩ := q2 k hkn
    subst hcv
    have cq := cells_kept hw kW hq
    have hx' : InstV (fun b => b < H'.next) H' (.agg #[.int .i64 x.kind, .int .i64 x.cap, iv, cv, .int .i64 x.size, sv]) x := hx.up (fun b hb => by omega) (.kept hw kW)
    have hWs : SlV (fun b => b < H'.next) H' wv W := hW.slv (fun _ h => h.elim) (fun b hb => hW.lt w' b hb) (by omega)
    have hrp := RReplay_spec hx' hok hWs (by omega)
    rw [hr] at hrp
    generalize K[k] = z at *
    simp (disch := omega) [-getElem?_pos, if_pos, if_neg, decide_eq_true, decide_eq_false, ir_law14_way_l0, e2, e5, e16, e17, e18, q1, q3, cq, cut6', hkn]
    refine hrp.mono' fun u H2 w2 ⟨sv2, hu, hs2, k2⟩ => ?_
    subst hu
    dsimp only at hs2
    have n2 := k2.next
    obtain ⟨pw, bw, rfl, p2, u2⟩ := id hs2
    have hqn : q < H2.next := by
      have := cells_lt hw hq
      omega
    have o1 := p2.cell
    have o2 := u2.cell
    have cq2 := cells_kept w' k2 cq
    have hmv := RMoves_spec (hs2.kept w2 (.alloc (B := .row [pw, .int .i64 s.cost, .int .i64 s.left, .int .i64 s.pos, bw] T_secateurref14_State true))).any ((hx'.kept w' k2).kept w2 (.alloc (B := .row [pw, .int .i64 s.cost, .int .i64 s.left, .int .i64 s.pos, bw] T_secateurref14_State true))).any hok hso
    simp (disch := omega) [-getElem?_pos, if_pos, if_neg, decide_eq_true, decide_eq_false, e2, o1.1, o1.2, o2.1, o2.2, cq2, cut5', cut6', writeA, over]
    generalize hH3 : AH.alloc H2 _ = H3 at *
    have k3 : Keep [] H2 H3 := by rw [← hH3]; exact .alloc
    have w3 : WF H3 := by rw [← hH3]; exact w2.alloc
    clear hH3
    refine hmv.mono' fun u H4 w4 ⟨S4, hM, k4, hS4⟩ => ?_
    have n3 := k3.next
    have n4 := k4.next
    have k14 := (k2.trans' k3).trans' k4
    obtain ⟨ma, mc, rfl⟩ := hM.slice
    have hML := moves_len (x := x) (s := s)
    by_cases hM0 : (x.moves s).length = 0
    · have hM0' : ((x.moves s).length : Int) = 0 := by omega
      simp (disch := omega) [-getElem?_pos, if_pos, if_neg, decide_eq_true, decide_eq_false, hM0']
      exact ⟨rfl, wv, W, by simp [e5], ⟨S, hW.kept w' k14, kW.trans' k14, hS⟩, by omega⟩
    · have hM0' : ((x.moves s).length : Int) ≠ 0 := by omega
      have hMne := eq_false hM0'
      have hMe : (x.moves s = []) = False := eq_false fun h => hM0 (by rw [h]; rfl)
      obtain ⟨b1, off1, sp1, cap1, cs1, hcv1, r1, r2⟩ := ints_rd (hM.slv (q := fun _ => True) (fun _ h => h.elim) (fun _ _ => trivial) (by omega)) (by omega)
      cases hcv1
      have hz0 : 0 ≤ (if 0 < z then z else 0) := by split <;> omega
      obtain ⟨j, hj⟩ : ∃ j : Nat, (if 0 < z then z else 0).tmod (x.moves s).length = (j : Int) := ⟨((if 0 < z then z else 0).tmod (x.moves s).length).toNat, by rw [Int.toNat_of_nonneg (Int.tmod_nonneg _ hz0)]⟩
      have hjl : j < (x.moves s).length := by
        have := Int.tmod_lt_of_pos (if 0 < z then z else 0) (show (0 : Int) < (x.moves s).length by omega)
        omega
      obtain ⟨r3, r4⟩ := r2 j hjl
      have hdm : (x.moves s)[j] ∈ x.moves s := List.getElem_mem _
      have hW5 := ((hW.kept w' k14).slv (q := fun _ => True) (fun _ h => h.elim) (fun _ _ => trivial) (by omega)).kept w4 (.room (m := 13))
      obtain ⟨aw, cw, w5, Hx, S5, rfl, pE, pA, hO, hS5, hn5, hb5⟩ := copyOwn hW5 (id := H4.next + 1) (by simp) (ty := T_int) (by omega)
      generalize (x.moves s)[j] = d at *
      simp (disch := omega) [-getElem?_pos, if_pos, if_neg, decide_eq_true, decide_eq_false, e5, hMne, hMe, r1, r3, hj, pE, pA]
      have hM4 := hM.lt w4
      have hbS : [b1] = S4 := hM.blkOf
      have hb1 : b1 < H4.next := hM4 b1 (by rw [← hbS]; simp)
      have hWS := hW.blkOf
      have hWlt := hW.lt w'
      have hnx : Hx.next = H4.next + 13 := by simpa using hn5
      have wx : WF Hx := (WF.room w4 (m := 13)).at (S := []) hn5 (by simp) (by simp) fun b hb _ => hb5 b hb
      obtain ⟨Hy, hHy⟩ : ∃ Hy, Hy = Hx.set (H4.next + 10) (.row [.int .i64 d] T_int true) := ⟨_, rfl⟩
      have wy : WF Hy := by rw [hHy]; exact wx.set (by omega)
      have ny : Hy.next = H4.next + 13 := by rw [hHy]; simpa using hnx
      have pE2 : elemsA Hy 1 (.slice (some ⟨H4.next + 10, 0, none⟩) 1 1) = some [.int .i64 d] := by
        rw [hHy]
        simp [elemsA, AH.cells_set_same, cut]
      have hS5' : ∀ b ∈ S5, b = H4.next + 1 := fun b hb => by
        rcases hS5 with h | h <;> rw [h] at hb <;> simp at hb
        exact hb
      have hOy : OwnL (fun _ => False) Hy T_int w5 W S5 := hO.over (fun _ h => h.elim) fun b hb => by
        have := hS5' b hb
        rw [hHy, AH.set_blk_ne (by omega)]
      obtain ⟨b', o', s', c', Hz, pB, hB, nz, fz, iz⟩ := hOy.pushAt (id := H4.next + 11) (q := fun _ => False) (by omega) (cs := [.int .i64 d]) (a := d) ⟨rfl, r4⟩ 8 (fun _ h => h) (fun _ h => h.elim) (by omega) (by omega)
      simp only [sz_int] at pB
      have wz : WF Hz := wy.at nz (by omega) (fun b hb => by have := hS5' b hb; omega) fz
      have kz : Keep [] H4 Hz := ⟨by omega, fun b hb _ => by rw [fz b (by omega) (fun h => by have := hS5' b h; omega), hHy, AH.set_blk_ne (by omega), hb5 b (by omega)]; rfl⟩
      have hb' : H4.next ≤ b' := by
        rcases iz with h | h
        · have := hS5' b' (by rw [h]; simp)
          omega
        · omega
      refine ⟨off1_iff.2 (by simp; omega), off1_iff.2 fun h => ?_, ?_⟩
      · have := hWlt _ (by rw [← hWS]; exact h)
        omega
      rw [if_pos (show H4.next + 10 < Hx.next by omega), ← hHy]
      simp (disch := omega) [-getElem?_pos, if_pos, if_neg, decide_eq_true, decide_eq_false, pE2, pB, e17, e18, IntWalk.i64_in]
      exact ⟨hkn, by simp [e2], by simp [e16], by simp [e17], by simp, wz, _, W ++ [d], x.applyS s d, by simp; rfl, ⟨[b'], by simpa using hB, kW.trans' (k14.trans' kz), by simp; omega⟩, by simp; omega, replayF_snoc hr hdm⟩
  · obtain rfl : k = K.length := by omega
    simp (disch := omega) [-getElem?_pos, if_pos, if_neg, decide_eq_true, decide_eq_false, ir_law14_way_l0, e17, e18]
    exact ⟨rfl, wv, W, e5, ⟨S, hW, kW, hS⟩, by omega⟩
end Go.Proofs.YtlcddhgfkkjhkaaDoor
