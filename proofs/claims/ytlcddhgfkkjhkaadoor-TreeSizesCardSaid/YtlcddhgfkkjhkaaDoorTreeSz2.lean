/-
  Layer 15: TreeSizes.
-/
import Derived.Test.YtlcddhgfkkjhkaaDoorTreeSz
import Derived.Test.YtlcddhgfkkjhkaaDoorWak15
set_option maxRecDepth 100000
set_option linter.unusedSimpArgs false
set_option linter.unusedVariables false
namespace Go.Proofs.YtlcddhgfkkjhkaaDoor
open Go Go.Abs
theorem RSize_spec {H : AH} {k n : Int} (hn : I64 n) : AFn Tryd.prog F_ref15_Size [.int .i64 k, .int .i64 n] H fun u H' => u = szV k n ∧ H' = H := by
  refine AFn.calm (fun H0 hs => ?_) (by unfold szV; split <;> rfl)
  refine AFn.enter mixed ir_ref15_Size_eq (by simp [ir_ref15_Size]) fun hw => ?_
  unfold szV
  by_cases h0 : n < 0
  · rw [if_neg (by omega)]
    by_cases hk0 : k < 0
    · simp (disch := omega) [-getElem?_pos, if_pos, if_neg, decide_eq_true, decide_eq_false, ir_ref15_Size, hk0]
    · by_cases hk3 : 3 < k
      · simp (disch := omega) [-getElem?_pos, if_pos, if_neg, decide_eq_true, decide_eq_false, ir_ref15_Size, hk0, hk3]
      · simp (disch := omega) [-getElem?_pos, if_pos, if_neg, decide_eq_true, decide_eq_false, ir_ref15_Size, hk0, hk3, h0]
  · by_cases hk0 : k < 0
    · rw [if_neg (by omega)]
      simp (disch := omega) [-getElem?_pos, if_pos, if_neg, decide_eq_true, decide_eq_false, ir_ref15_Size, hk0]
    · by_cases hk3 : 3 < k
      · rw [if_neg (by omega)]
        simp (disch := omega) [-getElem?_pos, if_pos, if_neg, decide_eq_true, decide_eq_false, ir_ref15_Size, hk0, hk3]
      · rw [if_pos (by omega)]
        obtain ⟨m, rfl⟩ : ∃ m : Nat, n = m := ⟨n.toNat, by omega⟩
        rw [Int.toNat_natCast]
        by_cases hm : 64 < m
        · have hf := szT_big (k := k) hm
          have hs : shortI (szT k m : Int) = 0 := by unfold shortI; rw [hf]; rfl
          rw [hf, hs]
          have hm' : (64 : Int) < m := by omega
          simp (disch := omega) [-getElem?_pos, if_pos, if_neg, decide_eq_true, decide_eq_false, ir_ref15_Size, h0, hk0, hk3, hm, hm']
        · have hm' : ¬ (64 : Int) < m := by omega
          have hz : szT k m = smF (szF k m) m := rfl
          rw [hz]
          have hS := fun (H : AH) (v : Value) h => Short_spec (p := Off H0.next 0 0) (H := H) (v := v) (n := (smF (szF k m) m : Int)) h
          generalize hV : Value.tuple #[.int .i64 (shortI (smF (szF k m) m : Int)), .bool (fitsI (smF (szF k m) m : Int))] = V
          simp (disch := omega) [-getElem?_pos, if_pos, if_neg, decide_eq_true, decide_eq_false, ir_ref15_Size, h0, hk0, hk3, hm, hm']
          refine (Of_spec (n := 1) (by unfold I64; omega)).mono' fun u H1 w1 ⟨hu1, k1⟩ => ?_
          obtain ⟨d1, rfl, x1, x2⟩ := nat_big1 (by omega) hu1
          have n1 := k1.next
          simp (disch := omega) [-getElem?_pos, if_pos, if_neg, decide_eq_true, decide_eq_false, x1, x2, writeA, over, cut2]
          obtain ⟨H2, hH2⟩ : ∃ H2, H2 = H1.alloc (.row [.bool false, d1] T_secateurref01_Big true) := ⟨_, rfl⟩
          have k2 : Keep [] H1 H2 := by rw [hH2]; exact .alloc
          have w2 : WF H2 := by rw [hH2]; exact w1.alloc
          have n2 : H2.next = H1.next + 1 := by rw [hH2]; simp
          have b2 : H2.blk H1.next = some (.row [.bool false, d1] T_secateurref01_Big true) := by rw [hH2]; simp
          rw [← hH2]
          clear hH2
          refine (Of_spec (n := 1) (by unfold I64; omega)).mono' fun u H3 w3 ⟨hu3, k3⟩ => ?_
          obtain ⟨d3, rfl, y1, y2⟩ := nat_big1 (by omega) hu3
          have n3 := k3.next
          simp (disch := omega) [-getElem?_pos, if_pos, if_neg, decide_eq_true, decide_eq_false, y1, y2, writeA, over, cut2]
          obtain ⟨H4, hH4⟩ : ∃ H4, H4 = H3.alloc (.row [.bool false, d3] T_secateurref01_Big true) := ⟨_, rfl⟩
          have k4 : Keep [] H3 H4 := by rw [hH4]; exact .alloc
          have w4 : WF H4 := by rw [hH4]; exact w3.alloc
          have n4 : H4.next = H3.next + 1 := by rw [hH4]; simp
          have b4 : H4.blk H3.next = some (.row [.bool false, d3] T_secateurref01_Big true) := by rw [hH4]; simp
          rw [← hH4]
          clear hH4
          refine (Of_spec (n := 2) (by unfold I64; omega)).mono' fun u H5 w5 ⟨hu5, k5⟩ => ?_
          obtain ⟨d5, rfl, z1, z2⟩ := nat_big1 (by omega) hu5
          have n5 := k5.next
          simp (disch := omega) [-getElem?_pos, if_pos, if_neg, decide_eq_true, decide_eq_false, z1, z2, writeA, over, cut2]
          obtain ⟨H6, hH6⟩ : ∃ H6, H6 = H5.alloc (.row [.bool false, d5] T_secateurref01_Big true) := ⟨_, rfl⟩
          have k6 : Keep [] H5 H6 := by rw [hH6]; exact .alloc
          have w6 : WF H6 := by rw [hH6]; exact w5.alloc
          have b6 : H6.blk H5.next = some (.row [.bool false, d5] T_secateurref01_Big true) := by rw [hH6]; simp
          rw [← hH6]
          clear hH6
          have k56 := k5.trans' k6
          have k36 := k3.trans' (k4.trans' k56)
          refine wpC_use (refsize_l0 (q6 := H1.next) (q7 := H3.next) (q8 := H5.next) (k := k) (n := m) ⟨by omega, by omega, by omega⟩ (by omega) ⟨by simp, by simp, by simp, by simp, by simp, by simp, w6, d1, d3, d5, ?_, ?_, b6, ?_, ?_, ?_⟩) ?_
          · rw [k36.blk _ (by omega) (by simp), b2]
          · rw [k56.blk _ (by omega) (by simp), b4]
          · exact (hu1.kept w1 (k2.trans' k36)).up (fun z hz => ⟨by omega, by omega, by omega⟩) .refl
          · exact (hu3.kept w3 (k4.trans' k56)).up (fun z hz => ⟨by omega, by omega, by omega⟩) .refl
          · exact (hu5.kept w5 k6).up (fun z hz => ⟨by omega, by omega, by omega⟩) .refl
          rintro e env2 H7 ⟨rfl, f0, f1, f6, f7, f8, f9, w7, d6, d7, d8, c6, c7, c8, v6, v7, v8⟩ hu
          have hc6 := AH.cells_of c6
          have hsh := Short_spec v6
          rw [hV] at hsh
          obtain ⟨x, y, hxy⟩ : ∃ x y, V = .tuple #[.int .i64 x, .bool y] := ⟨_, _, hV.symm⟩
          simp (disch := omega) [-getElem?_pos, if_pos, if_neg, decide_eq_true, decide_eq_false, f6, hc6, cut2, bigT]
          refine AFn.pure hsh ?_
          subst hxy
          simp (disch := omega) [-getElem?_pos, if_pos, if_neg, decide_eq_true, decide_eq_false, ]
theorem szV_parts (k n : Int) : ∃ x y, szV k n = .tuple #[.int .i64 x, .bool y] := by
  unfold szV; split <;> exact ⟨_, _, rfl⟩
theorem two_get {a b : Int} {k : Nat} (h : k < 2) : [Value.int .i64 a, .int .i64 b][k]? = some (.int .i64 (if k = 0 then a else b)) := by
  match k, h with
  | 0, _ => rfl
  | 1, _ => rfl
def Ts0I (H : AH) (q : Nat) (a b n2 : Int) (n : Int) (v17 : Value) (k2 : Nat) (z : Int) (k : Nat) (env : Env) (H' : AH) : Prop :=
  H' = H ∧ env 0 = some v17 ∧ env 1 = some (.int .i64 n) ∧ env 6 = some (.int .i64 z) ∧ env 17 = some (.slice (some ⟨k2, 0, none⟩) 2 2) ∧ env 18 = some (.int .i64 2) ∧ env 19 = some (.int .i64 b) ∧ env 27 = some (.slice (some ⟨q, 0, none⟩) 2 2) ∧ env 28 = some (.int .i64 2) ∧ env 29 = some (.int .i64 k)
theorem tsizes_l0 {H : AH} {q : Nat} {a b n2 n : Int} {v17 : Value} {k2 : Nat} {z : Int} (hn : I64 n) (hn2 : I64 n2) (hc : H.cells q = some [.int .i64 n, .int .i64 n2]) {env : Env} (h : Ts0I H q a b n2 n v17 k2 z 0 env H) :
    wpC Tryd.prog 56 (.loop ir_law15_TreeSizes_l0) (fun e env' H' => e = .exit 2 ∧ Ts0I H q a b n2 n v17 k2 z 2 env' H') env H := by
  refine loop_upto 2 (Ts0I H q a b n2 n v17 k2 z) (Q := fun e env' H' => e = .exit 2 ∧ Ts0I H q a b n2 n v17 k2 z 2 env' H') h ?_
  rintro k env H' hk ⟨rfl, e0, e1, e6, e17, e18, e19, e27, e28, e29⟩
  by_cases hkn : k < 2
  · have hg := two_get (a := n) (b := n2) hkn
    have hm : I64 (if k = 0 then n else n2) := by split <;> assumption
    have hA := TSize_spec (H := H') (k := z) hm
    have hB := RSize_spec (H := H') (k := z) hm
    obtain ⟨x, y, hxy⟩ := szV_parts z (if k = 0 then n else n2)
    rw [hxy] at hA hB
    generalize (if k = 0 then n else n2) = m at *
    generalize hL : [Value.int .i64 n, .int .i64 n2] = L at *
    have hk2 : (k : Int) < 2 := by omega
    simp (disch := omega) [-getElem?_pos, if_pos, if_neg, decide_eq_true, decide_eq_false, ir_law15_TreeSizes_l0, e1, e6, e27, e28, e29, hkn, hk2, hc, hg]
    refine AFn.pure hA ?_
    simp (disch := omega) [-getElem?_pos, if_pos, if_neg, decide_eq_true, decide_eq_false, e6]
    refine AFn.pure hB ?_
    simp (disch := omega) [-getElem?_pos, if_pos, if_neg, decide_eq_true, decide_eq_false, e0, e1, e6, e17, e18, e19, e27, e28, e29, IntWalk.i64_in]
    exact ⟨hkn, rfl, by simp [e0], by simp [e1], by simp [e6], by simp [e17], by simp [e18], by simp [e19], by simp [e27], by simp [e28], by simp⟩
  · obtain rfl : k = 2 := by omega
    simp (disch := omega) [-getElem?_pos, if_pos, if_neg, decide_eq_true, decide_eq_false, ir_law15_TreeSizes_l0, e28, e29]
    exact ⟨rfl, e0, e1, e6, e17, e18, e19, e27, e28, e29⟩
def Ts1I (H : AH) (q : Nat) (n : Int) (v : Value) (k : Nat) (env : Env) (H' : AH) : Prop :=
  WF H' ∧ Keep [] H H' ∧ env 0 = some v ∧ env 1 = some (.int .i64 n) ∧ env 17 = some (.slice (some ⟨q, 0, none⟩) 2 2) ∧ env 18 = some (.int .i64 2) ∧ env 19 = some (.int .i64 k)
theorem tsizes_l1 {H : AH} {q : Nat} {n k1 k2 : Int} {v : Value} (hw : WF H) (hn : I64 n) (hc : H.cells q = some [.int .i64 k1, .int .i64 k2]) {env : Env} (h : Ts1I H q n v 0 env H) :
    wpC Tryd.prog 56 (.loop ir_law15_TreeSizes_l1) (fun e env' H' => e = .exit 0 ∧ WF H' ∧ Keep [] H H') env H := by
  refine loop_upto 2 (Ts1I H q n v) (Q := fun e env' H' => e = .exit 0 ∧ WF H' ∧ Keep [] H H') h ?_
  rintro k env H' hk ⟨w', k', e0, e1, e17, e18, e19⟩
  by_cases hkn : k < 2
  · have hg := two_get (a := k1) (b := k2) hkn
    have c' := cells_kept hw k' hc
    generalize (if k = 0 then k1 else k2) = z at *
    generalize hL : [Value.int .i64 k1, .int .i64 k2] = L at *
    have hk2 : (k : Int) < 2 := by omega
    obtain ⟨x1, x2⟩ := id hn
    have hz0 : 0 ≤ (if 0 < n then n else 0) := by split <;> omega
    have hm0 := Int.tmod_nonneg 70 hz0
    have hm1 := Int.tmod_lt_of_pos (if 0 < n then n else 0) (show (0 : Int) < 70 by omega)
    have hn2 : I64 ((if 0 < n then n else 0).tmod 70) := by unfold I64; omega
    generalize hmm : (if 0 < n then n else 0).tmod 70 = n2 at *
    clear hz0 hm0 hm1
    simp (disch := omega) [-getElem?_pos, if_pos, if_neg, decide_eq_true, decide_eq_false, ir_law15_TreeSizes_l1, e0, e1, e17, e18, e19, hkn, hk2, c', hg, hmm]
    obtain ⟨H2, hH2⟩ : ∃ H2, H2 = H'.alloc (.row [.int .i64 n, .int .i64 n2] T_int true) := ⟨_, rfl⟩
    have k2' : Keep [] H' H2 := by rw [hH2]; exact .alloc
    have w2 : WF H2 := by rw [hH2]; exact w'.alloc
    have c2 : H2.cells H'.next = some [.int .i64 n, .int .i64 n2] := by rw [hH2]; simp
    rw [← hH2]
    clear hH2
    refine wpC_use (tsizes_l0 (a := 0) (b := k) (n2 := n2) (n := n) (v17 := v) (k2 := q) (z := z) hn hn2 c2 ⟨rfl, by simp [e0], by simp [e1], by simp, by simp [e17], by simp [e18], by simp [e19], by simp, by simp, by simp⟩) ?_
    rintro e env2 H3 ⟨rfl, rfl, f0, f1, f6, f17, f18, f19, f27, f28, f29⟩ hu
    simp (disch := omega) [-getElem?_pos, if_pos, if_neg, decide_eq_true, decide_eq_false, f19, IntWalk.i64_in]
    exact ⟨hkn, w2, k'.trans' k2', by simp [f0], by simp [f1], by simp [f17], by simp [f18], by simp⟩
  · obtain rfl : k = 2 := by omega
    simp (disch := omega) [-getElem?_pos, if_pos, if_neg, decide_eq_true, decide_eq_false, ir_law15_TreeSizes_l1, e18, e19]
    exact ⟨w', k'⟩
theorem TreeSizes_abs {H : AH} {k n : Int} (hg : GroundA G H) (hk : I64 k) (hn : I64 n) : AFn Tryd.prog F_law15_TreeSizes [.int .i64 k, .int .i64 n] H fun u H' => u = .bool true ∧ H' = H := by
  refine AFn.calm (fun H0 hs => ?_) rfl
  have hg0 := hg.of (H' := H0) hs.2
  refine AFn.enter mixed ir_law15_TreeSizes_eq (by simp [ir_law15_TreeSizes]) fun hw => ?_
  generalize hmm : (if 0 < k then k else 0).tmod 4 = k2
  simp (disch := omega) [-getElem?_pos, if_pos, if_neg, decide_eq_true, decide_eq_false, ir_law15_TreeSizes, hmm]
  obtain ⟨H2, hH2⟩ : ∃ H2, H2 = H0.alloc (.row [.int .i64 k, .int .i64 k2] T_int true) := ⟨_, rfl⟩
  have k2' : Keep [] H0 H2 := by rw [hH2]; exact .alloc
  have w2 : WF H2 := by rw [hH2]; exact hw.alloc
  have c2 : H2.cells H0.next = some [.int .i64 k, .int .i64 k2] := by rw [hH2]; simp
  rw [← hH2]
  clear hH2
  refine wpC_use (tsizes_l1 (q := H0.next) (n := n) (v := .int .i64 k) w2 hn c2 ⟨w2, .refl, by simp, by simp, by simp, by simp, by simp⟩) ?_
  rintro e env2 H3 ⟨rfl, w3, k3⟩ hu
  simp (disch := omega) [-getElem?_pos, if_pos, if_neg, decide_eq_true, decide_eq_false, ]
  refine AFn.pure (wakes15_spec (hg0.kept hw (k2'.trans' k3))) ?_
  simp (disch := omega) [-getElem?_pos, if_pos, if_neg, decide_eq_true, decide_eq_false, ]
end Go.Proofs.YtlcddhgfkkjhkaaDoor
