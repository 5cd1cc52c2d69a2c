/-
  DeheapMakes: the walk.
-/
import Derived.Test.YtgecnmjohhmfjaaCuts
set_option maxRecDepth 100000
set_option linter.unusedSimpArgs false
set_option linter.unusedVariables false
namespace Go.Proofs.Ytgecnmjohhmfjaa
open Go Go.Abs

theorem zeros_ents : ∀ n : Nat, zeros [Value.int .i64 0, .int .i64 0, .int .i64 0, .int .i64 0] n = cellsE (List.replicate n zeroE)
  | 0 => rfl
  | n + 1 => by rw [zeros, zeros_ents n]; rfl

/-! ### a nil heap -/
section
variable {H : AH}
theorem nLen_spec : AFn Try.prog F_deheap_Heap_Len [.pointer none] H fun u H' => u = .int .i64 0 ∧ H' = H := by
  refine AFn.enter mixed ir_deheap_Heap_Len_eq (by simp [ir_deheap_Heap_Len]) fun hw => ?_
  simp (disch := omega) [-getElem?_pos, if_pos, if_neg, decide_eq_true, decide_eq_false, ir_deheap_Heap_Len]
theorem nRoom_spec : AFn Try.prog F_deheap_Heap_Room [.pointer none] H fun u H' => u = .int .i64 0 ∧ H' = H := by
  refine AFn.enter mixed ir_deheap_Heap_Room_eq (by simp [ir_deheap_Heap_Room]) fun hw => ?_
  simp (disch := omega) [-getElem?_pos, if_pos, if_neg, decide_eq_true, decide_eq_false, ir_deheap_Heap_Room]
theorem nSorted_spec : AFn Try.prog F_deheap_Heap_Sorted [.pointer none] H fun u H' => u = .slice none 0 0 ∧ H' = H := by
  refine AFn.enter mixed ir_deheap_Heap_Sorted_eq (by simp [ir_deheap_Heap_Sorted]) fun hw => ?_
  simp (disch := omega) [-getElem?_pos, if_pos, if_neg, decide_eq_true, decide_eq_false, ir_deheap_Heap_Sorted]
theorem nPush_spec : AFn Try.prog F_deheap_Heap_Push [.pointer none, zeroE.val] H fun u H' => u = .int .i64 1 ∧ Keep [] H H' := by
  refine AFn.enter mixed ir_deheap_Heap_Push_eq (by simp [ir_deheap_Heap_Push]) fun hw => ?_
  simp (disch := omega) [-getElem?_pos, if_pos, if_neg, decide_eq_true, decide_eq_false, ir_deheap_Heap_Push, zeroE]
  exact .alloc
theorem nTold_spec (name : String) : AFn Try.prog F_deheap_Heap_told [.pointer none, .func (.methodOf T_deheap_ends name) #[] #[]] H fun u H' => u = tellV none ∧ Keep [] H H' := by
  refine AFn.enter mixed ir_deheap_Heap_told_eq (by simp [ir_deheap_Heap_told]) fun hw => ?_
  simp (disch := omega) [-getElem?_pos, if_pos, if_neg, decide_eq_true, decide_eq_false, ir_deheap_Heap_told, writeA_row (blk0 H T_key_Entry), over, cut, tellV]
  exact .alloc
theorem nMin_spec : AFn Try.prog F_deheap_Heap_Min [.pointer none] H fun u H' => u = tellV none ∧ Keep [] H H' := by
  refine AFn.enter mixed ir_deheap_Heap_Min_eq (by simp [ir_deheap_Heap_Min]) fun hw => ?_
  simp (disch := omega) [-getElem?_pos, if_pos, if_neg, decide_eq_true, decide_eq_false, ir_deheap_Heap_Min]
  refine (nTold_spec "Min").mono' fun u H2 w2 ⟨hu, k2⟩ => ?_
  subst hu
  have hb : H2.blk H.next = some (ent0 T_key_Entry) := by rw [k2.blk _ (by simp) (by simp)]; exact blk0 H T_key_Entry
  simp (disch := omega) [-getElem?_pos, if_pos, if_neg, decide_eq_true, decide_eq_false, writeA_row hb, over, tellV, cut]
  exact Keep.new_set (Nat.le_refl _) (Keep.trans' .alloc k2)
theorem nMax_spec : AFn Try.prog F_deheap_Heap_Max [.pointer none] H fun u H' => u = tellV none ∧ Keep [] H H' := by
  refine AFn.enter mixed ir_deheap_Heap_Max_eq (by simp [ir_deheap_Heap_Max]) fun hw => ?_
  simp (disch := omega) [-getElem?_pos, if_pos, if_neg, decide_eq_true, decide_eq_false, ir_deheap_Heap_Max]
  refine (nTold_spec "Max").mono' fun u H2 w2 ⟨hu, k2⟩ => ?_
  subst hu
  have hb : H2.blk H.next = some (ent0 T_key_Entry) := by rw [k2.blk _ (by simp) (by simp)]; exact blk0 H T_key_Entry
  simp (disch := omega) [-getElem?_pos, if_pos, if_neg, decide_eq_true, decide_eq_false, writeA_row hb, over, tellV, cut]
  exact Keep.new_set (Nat.le_refl _) (Keep.trans' .alloc k2)
theorem nPopMax_spec : AFn Try.prog F_deheap_Heap_PopMax [.pointer none] H fun u H' => u = tellV none ∧ Keep [] H H' := by
  refine AFn.enter mixed ir_deheap_Heap_PopMax_eq (by simp [ir_deheap_Heap_PopMax]) fun hw => ?_
  simp (disch := omega) [-getElem?_pos, if_pos, if_neg, decide_eq_true, decide_eq_false, ir_deheap_Heap_PopMax]
  refine (nTold_spec "PopMax").mono' fun u H2 w2 ⟨hu, k2⟩ => ?_
  subst hu
  have hb : H2.blk H.next = some (ent0 T_key_Entry) := by rw [k2.blk _ (by simp) (by simp)]; exact blk0 H T_key_Entry
  simp (disch := omega) [-getElem?_pos, if_pos, if_neg, decide_eq_true, decide_eq_false, writeA_row hb, over, tellV, cut]
  exact Keep.new_set (Nat.le_refl _) (Keep.trans' .alloc k2)
theorem nEvict_spec (n : Int) : AFn Try.prog F_deheap_Heap_Evict [.pointer none, .int .i64 n] H fun u H' => u = .slice none 0 0 ∧ H' = H := by
  refine AFn.enter mixed ir_deheap_Heap_Evict_eq (by simp [ir_deheap_Heap_Evict]) fun hw => ?_
  simp (disch := omega) [-getElem?_pos, if_pos, if_neg, decide_eq_true, decide_eq_false, ir_deheap_Heap_Evict]
  refine AFn.pure nLen_spec ?_
  have hmn : (if (0 : Int) < (if (0 : Int) > n then 0 else n) then (0 : Int) else (if (0 : Int) > n then 0 else n)) = 0 := by
    split <;> split at * <;> omega
  simp (disch := omega) [-getElem?_pos, if_pos, if_neg, decide_eq_true, decide_eq_false, hmn]
  refine wpC_use (loop_upto 0 (fun _ env H' => env 5 = some (.slice none 0 0) ∧ env 12 = some (.int .i64 0) ∧ env 13 = some (.int .i64 0) ∧ H' = H) (Q := fun e env H' => e = .exit 0 ∧ env 5 = some (.slice none 0 0) ∧ H' = H) ⟨by simp, by simp, by simp, rfl⟩ ?_) ?_
  · rintro k env H' hk ⟨e5, e12, e13, rfl⟩
    simp (disch := omega) [-getElem?_pos, if_pos, if_neg, decide_eq_true, decide_eq_false, ir_deheap_Heap_Evict_l0, e12, e13, e5]
  · rintro e env2 H2 ⟨rfl, e5, rfl⟩ _
    simp (disch := omega) [-getElem?_pos, if_pos, if_neg, decide_eq_true, decide_eq_false, e5]
theorem nReverse_spec : AFn Try.prog F_slices_Reverse_Lkey_Entry_key_Entry [.slice none 0 0] H fun u H' => H' = H := by
  refine AFn.enter mixed ir_slices_Reverse_Lkey_Entry_key_Entry_eq (by simp [ir_slices_Reverse_Lkey_Entry_key_Entry]) fun hw => ?_
  simp (disch := omega) [-getElem?_pos, if_pos, if_neg, decide_eq_true, decide_eq_false, ir_slices_Reverse_Lkey_Entry_key_Entry, IntWalk.i64_in]
  refine wpC_use (loop_upto 0 (fun _ env H' => env 2 = some (.int .i64 0) ∧ env 3 = some (.int .i64 (-1)) ∧ H' = H) (Q := fun e env H' => e = .exit 0 ∧ H' = H) ⟨by simp, by simp, rfl⟩ ?_) ?_
  · rintro k env H' hk ⟨e2, e3, rfl⟩
    simp (disch := omega) [-getElem?_pos, if_pos, if_neg, decide_eq_true, decide_eq_false, ir_slices_Reverse_Lkey_Entry_key_Entry_l0, e2, e3]
  · rintro e env2 H2 ⟨rfl, rfl⟩ _
    simp (disch := omega) [-getElem?_pos, if_pos, if_neg, decide_eq_true, decide_eq_false, ]
theorem nDrop_spec (n : Int) : AFn Try.prog F_deheap_Heap_Drop [.pointer none, .int .i64 n] H fun u H' => u = .slice none 0 0 ∧ Keep [] H H' := by
  refine AFn.enter mixed ir_deheap_Heap_Drop_eq (by simp [ir_deheap_Heap_Drop]) fun hw => ?_
  simp (disch := omega) [-getElem?_pos, if_pos, if_neg, decide_eq_true, decide_eq_false, ir_deheap_Heap_Drop]
  refine wpC_use (loop_upto 0 (fun _ env H' => env 0 = some (.pointer none) ∧ env 5 = some (.slice none 0 0) ∧ WF H' ∧ Keep [] H H') (Q := fun e env H' => e = .ret ∧ env 4 = some (.slice none 0 0) ∧ Keep [] H H') ⟨by simp, by simp, hw, .refl⟩ ?_) ?_
  · rintro k env H' hk ⟨e0, e5, w', k'⟩
    simp (disch := omega) [-getElem?_pos, if_pos, if_neg, decide_eq_true, decide_eq_false, ir_deheap_Heap_Drop_l0, e0, e5]
    refine nMax_spec.mono' fun u H2 w2 ⟨hu, k2⟩ => ?_
    subst hu
    simp (disch := omega) [-getElem?_pos, if_pos, if_neg, decide_eq_true, decide_eq_false, tellV, writeA_row (blk0 H2 T_key_Entry), over, e5]
    refine nReverse_spec.mono' fun u H3 w3 hH3 => ?_
    subst hH3
    simp (disch := omega) [-getElem?_pos, if_pos, if_neg, decide_eq_true, decide_eq_false, e5]
    exact (k'.trans' k2).trans' .alloc
  · rintro e env2 H2 ⟨rfl, e4, k2⟩ _
    simp (disch := omega) [-getElem?_pos, if_pos, if_neg, decide_eq_true, decide_eq_false, e4]
    exact k2
end

def wantE (kd m : Int) (n : Nat) : Int := if kd < 0 ∨ 2 ≤ kd then 25 else if m < 1 ∨ 1048576 < m then 2 else if m < n then 10 else 0
def two (k z : Int) : List Value := [.int .i64 k, .int .i64 z]
def MkI (H : AH) (kind m : Int) (n : Nat) (q : Nat) (kd2 : Int) (i : Nat) (env : Env) (H' : AH) : Prop :=
  env 2 = some (.int .i64 n) ∧ env 8 = some (.int .i64 m) ∧ env 38 = some (.slice (some ⟨q, 0, none⟩) 2 2) ∧ env 39 = some (.int .i64 2) ∧ env 40 = some (.int .i64 i) ∧ H'.cells q = some (two kind kd2) ∧ WF H' ∧ Keep [] H H'
def MkQ (H : AH) (x : Nat) (e : AExit) (env : Env) (H' : AH) : Prop := e = .exit x ∧ WF H' ∧ Keep [] H H'

theorem makes_l0 {H : AH} {kind m kd2 : Int} {n q : Nat} (hn : n < 20) {env : Env} (h : MkI H kind m n q kd2 0 env H) : wpC Try.prog 170 (.loop ir_law07_DeheapMakes_l0) (MkQ H 2) env H := by
  refine loop_upto 2 (MkI H kind m n q kd2) (Q := MkQ H 2) h ?_
  rintro i env H' hi ⟨e2, e8, e38, e39, e40, hc, w', k'⟩
  by_cases hin : i < 2
  · obtain ⟨kd, hkd⟩ : ∃ kd, (two kind kd2)[i]? = some (.int .i64 kd) := by
      have : i = 0 ∨ i = 1 := by omega
      rcases this with rfl | rfl
      · exact ⟨kind, rfl⟩
      · exact ⟨kd2, rfl⟩
    simp (disch := omega) [-getElem?_pos, if_pos, if_neg, decide_eq_true, decide_eq_false, ir_law07_DeheapMakes_l0, e2, e8, e38, e39, e40, hc, hkd]
    have hm : (32 : Int) * n ≤ 281474976710656 := by omega
    have hm2 : 32 * n ≤ 281474976710656 := by omega
    generalize hHz : H'.alloc (.row (zeros [.int .i64 0, .int .i64 0, .int .i64 0, .int .i64 0] n) T_key_Entry true) = Hz
    have kz : Keep [] H' Hz := by rw [← hHz]; exact .alloc
    have wz : WF Hz := by rw [← hHz]; exact w'.alloc
    have hzc : Hz.cells H'.next = some (cellsE (List.replicate n zeroE)) := by rw [← hHz, ← zeros_ents]; exact AH.cells_alloc_new
    have hE : EntsV (fun _ => True) Hz (.slice (some ⟨H'.next, 0, none⟩) n n) (List.replicate n zeroE) := by
      have hl := cellsE_length (List.replicate n zeroE)
      refine ⟨⟨by rw [hl], .inr ⟨H'.next, 0, none, n, _, by simp, by simp, .inl rfl, hzc, ?_, trivial⟩⟩, by simp; omega⟩
      rw [cut_eq (by rw [hl]; omega), List.drop_zero, List.take_of_length_le (by rw [hl]; omega)]
    have hcz := cells_kept w' kz hc
    clear hHz
    have k0 := k'.trans' kz
    by_cases hv : (0 ≤ kd ∧ kd < 2) ∧ 1 ≤ m ∧ m ≤ 1048576 ∧ (n : Int) ≤ m
    · obtain ⟨⟨v1, v2⟩, v3, v4, v5⟩ := hv
      obtain ⟨kb, hkb⟩ : ∃ kb : Bool, kd = kI kb := by
        have : kd = 0 ∨ kd = 1 := by omega
        rcases this with rfl | rfl
        · exact ⟨false, rfl⟩
        · exact ⟨true, rfl⟩
      rw [hkb]
      refine (Bulk_spec (k := kb) (most := m) hE ⟨v3, v4⟩ (by simp; omega) (by simpa using v5)).mono' fun u H2 w2 ⟨d, S, hu, hD, k2, hS⟩ => ?_
      subst hu
      have hlen : (sortL Ent.lt (List.replicate n zeroE)).length = n := by rw [sort_length]; simp
      rw [← hkb]
      simp (disch := omega) [-getElem?_pos, if_pos, if_neg, decide_eq_true, decide_eq_false, e2, e8, e38, e39, e40]
      refine AFn.pure (DLen_spec hD) ?_
      rw [hlen]
      simp (disch := omega) [-getElem?_pos, if_pos, if_neg, decide_eq_true, decide_eq_false, e2, e8, e38, e39, e40]
      rw [hkb]
      refine (DNew_spec (k := kb) (most := m) ⟨v3, v4⟩).mono' fun u H3 w3 ⟨d3, S3, hu3, hD3, k3, hS3⟩ => ?_
      subst hu3
      simp (disch := omega) [-getElem?_pos, if_pos, if_neg, decide_eq_true, decide_eq_false, e2, e8, e38, e39, e40]
      refine AFn.pure (DRoom_spec hD3 (by omega)) ?_
      simp (disch := omega) [-getElem?_pos, if_pos, if_neg, decide_eq_true, decide_eq_false, e2, e8, e38, e39, e40, IntWalk.i64_in]
      have k4 := k0.trans' (k2.trans' k3)
      exact ⟨hin, by simp [e2], by simp [e8], by simp [e38], by simp [e39], by simp, cells_kept wz (k2.trans' k3) hcz, w3, k4⟩
    · refine (Bulk_err (p := fun _ => True) (n := n) (cells := cellsE (List.replicate n zeroE)) (kd := kd) (most := m) (by have := hE.1; simpa using this) (by omega)).mono' fun u H2 w2 ⟨hu, hH⟩ => ?_
      subst hu hH
      have key : ∀ (e : Int), (e = 25 ∨ e = 2 ∨ e = 10) → (e = if kd < 0 ∨ 2 ≤ kd then 25 else if m < 1 ∨ 1048576 < m then 2 else 10) → True := fun _ _ _ => trivial
      by_cases h1 : kd < 0
      · simp (disch := omega) [-getElem?_pos, if_pos, if_neg, decide_eq_true, decide_eq_false, h1, e2, e8, e38, e39, e40]
        refine AFn.pure nLen_spec ?_
        by_cases hn0 : n = 0
        all_goals
          simp (disch := omega) [-getElem?_pos, if_pos, if_neg, decide_eq_true, decide_eq_false, hn0, e2, e8, e38, e39, e40]
          refine AFn.pure (DNew_err (by omega)) ?_
          simp (disch := omega) [-getElem?_pos, if_pos, if_neg, decide_eq_true, decide_eq_false, h1, e2, e8, e38, e39, e40, IntWalk.i64_in]
          exact ⟨hin, by simp [e2, hn0], by simp [e8], by simp [e38], by simp [e39], by simp, hcz, wz, k0⟩
      · by_cases h2 : 2 ≤ kd
        · simp (disch := omega) [-getElem?_pos, if_pos, if_neg, decide_eq_true, decide_eq_false, h1, h2, e2, e8, e38, e39, e40]
          refine AFn.pure nLen_spec ?_
          by_cases hn0 : n = 0
          all_goals
            simp (disch := omega) [-getElem?_pos, if_pos, if_neg, decide_eq_true, decide_eq_false, hn0, e2, e8, e38, e39, e40]
            refine AFn.pure (DNew_err (by omega)) ?_
            simp (disch := omega) [-getElem?_pos, if_pos, if_neg, decide_eq_true, decide_eq_false, h1, h2, e2, e8, e38, e39, e40, IntWalk.i64_in]
            exact ⟨hin, by simp [e2, hn0], by simp [e8], by simp [e38], by simp [e39], by simp, hcz, wz, k0⟩
        · by_cases h3 : m < 1
          · simp (disch := omega) [-getElem?_pos, if_pos, if_neg, decide_eq_true, decide_eq_false, h1, h2, h3, e2, e8, e38, e39, e40]
            refine AFn.pure nLen_spec ?_
            by_cases hn0 : n = 0
            all_goals
              simp (disch := omega) [-getElem?_pos, if_pos, if_neg, decide_eq_true, decide_eq_false, hn0, e2, e8, e38, e39, e40]
              refine AFn.pure (DNew_err (by omega)) ?_
              simp (disch := omega) [-getElem?_pos, if_pos, if_neg, decide_eq_true, decide_eq_false, h1, h2, e2, e8, e38, e39, e40, IntWalk.i64_in]
              exact ⟨hin, by simp [e2, hn0], by simp [e8], by simp [e38], by simp [e39], by simp, hcz, wz, k0⟩
          · by_cases h4 : 1048576 < m
            · simp (disch := omega) [-getElem?_pos, if_pos, if_neg, decide_eq_true, decide_eq_false, h1, h2, h3, h4, e2, e8, e38, e39, e40]
              refine AFn.pure nLen_spec ?_
              by_cases hn0 : n = 0
              all_goals
                simp (disch := omega) [-getElem?_pos, if_pos, if_neg, decide_eq_true, decide_eq_false, hn0, e2, e8, e38, e39, e40]
                refine AFn.pure (DNew_err (by omega)) ?_
                simp (disch := omega) [-getElem?_pos, if_pos, if_neg, decide_eq_true, decide_eq_false, h1, h2, e2, e8, e38, e39, e40, IntWalk.i64_in]
                exact ⟨hin, by simp [e2, hn0], by simp [e8], by simp [e38], by simp [e39], by simp, hcz, wz, k0⟩
            · obtain ⟨kb, hkb⟩ : ∃ kb : Bool, kd = kI kb := by
                have : kd = 0 ∨ kd = 1 := by omega
                rcases this with rfl | rfl
                · exact ⟨false, rfl⟩
                · exact ⟨true, rfl⟩
              have hn0 : n ≠ 0 := by omega
              simp (disch := omega) [-getElem?_pos, if_pos, if_neg, decide_eq_true, decide_eq_false, h1, h2, h3, h4, e2, e8, e38, e39, e40]
              refine AFn.pure nLen_spec ?_
              simp (disch := omega) [-getElem?_pos, if_pos, if_neg, decide_eq_true, decide_eq_false, hn0, e2, e8, e38, e39, e40]
              rw [hkb]
              refine (DNew_spec (k := kb) (most := m) ⟨by omega, by omega⟩).mono' fun u H3 w3 ⟨d3, S3, hu3, hD3, k3, hS3⟩ => ?_
              subst hu3
              simp (disch := omega) [-getElem?_pos, if_pos, if_neg, decide_eq_true, decide_eq_false, e2, e8, e38, e39, e40]
              refine AFn.pure (DRoom_spec hD3 (by omega)) ?_
              simp (disch := omega) [-getElem?_pos, if_pos, if_neg, decide_eq_true, decide_eq_false, e2, e8, e38, e39, e40, IntWalk.i64_in]
              exact ⟨hin, by simp [e2], by simp [e8], by simp [e38], by simp [e39], by simp, cells_kept wz k3 hcz, w3, k0.trans' k3⟩
  · obtain rfl : i = 2 := by omega
    simp (disch := omega) [-getElem?_pos, if_pos, if_neg, decide_eq_true, decide_eq_false, ir_law07_DeheapMakes_l0, e39, e40]
    exact ⟨rfl, w', k'⟩

def MnI (H : AH) (kind : Int) (n : Nat) (q : Nat) (m1 m2 : Int) (i : Nat) (env : Env) (H' : AH) : Prop :=
  env 0 = some (.int .i64 kind) ∧ env 2 = some (.int .i64 n) ∧ env 28 = some (.slice (some ⟨q, 0, none⟩) 2 2) ∧ env 29 = some (.int .i64 2) ∧ env 30 = some (.int .i64 i) ∧ H'.cells q = some (two m1 m2) ∧ WF H' ∧ Keep [] H H'
theorem makes_l1 {H : AH} {kind m1 m2 : Int} {n q : Nat} (hn : n < 20) (hk3 : IntKind.i64.wrap ((if kind > 0 then kind else 0).tmod 3) = (if kind > 0 then kind else 0).tmod 3) {env : Env} (h : MnI H kind n q m1 m2 0 env H) : wpC Try.prog 170 (.loop ir_law07_DeheapMakes_l1) (MkQ H 0) env H := by
  refine loop_upto 2 (MnI H kind n q m1 m2) (Q := MkQ H 0) h ?_
  rintro i env H' hi ⟨e0, e2, e28, e29, e30, hc, w', k'⟩
  by_cases hin : i < 2
  · obtain ⟨m, hm⟩ : ∃ m, (two m1 m2)[i]? = some (.int .i64 m) := by
      have : i = 0 ∨ i = 1 := by omega
      rcases this with rfl | rfl
      · exact ⟨m1, rfl⟩
      · exact ⟨m2, rfl⟩
    simp (disch := omega) [-getElem?_pos, if_pos, if_neg, decide_eq_true, decide_eq_false, ir_law07_DeheapMakes_l1, e0, e2, e28, e29, e30, hc, hm, over]
    generalize hHb : AH.alloc H' _ = Hb
    have kb : Keep [] H' Hb := by rw [← hHb]; exact .alloc
    have wb : WF Hb := by rw [← hHb]; exact w'.alloc
    have hcb : Hb.cells H'.next = some (two kind ((if kind > 0 then kind else 0).tmod 3)) := by rw [← hHb]; exact AH.cells_alloc_new
    have hc2 := cells_kept w' kb hc
    clear hHb
    refine wpC_use (makes_l0 (q := H'.next) (kind := kind) (kd2 := (if kind > 0 then kind else 0).tmod 3) (m := m) hn ⟨by simp [e2], by simp, by simp, by simp, by simp, hcb, wb, .refl⟩) ?_
    rintro e env2 H2 ⟨rfl, w2, k2⟩ hu
    have u0 := hu 0 (by decide)
    have u2 := hu 2 (by decide)
    have u28 := hu 28 (by decide)
    have u29 := hu 29 (by decide)
    have u30 := hu 30 (by decide)
    simp (disch := omega) [-getElem?_pos, if_pos, if_neg, decide_eq_true, decide_eq_false, u0, u2, u28, u29, u30, e0, e2, e28, e29, e30, IntWalk.i64_in]
    exact ⟨hin, by simp [u0, e0], by simp [u2, e2], by simp [u28, e28], by simp [u29, e29], by simp, cells_kept wb k2 hc2, w2, (k'.trans' kb).trans' k2⟩
  · obtain rfl : i = 2 := by omega
    simp (disch := omega) [-getElem?_pos, if_pos, if_neg, decide_eq_true, decide_eq_false, ir_law07_DeheapMakes_l1, e29, e30]
    exact ⟨rfl, w', k'⟩

theorem DeheapMakes_abs {H : AH} {kind most n : Int} : AFn Try.prog F_law07_DeheapMakes [.int .i64 kind, .int .i64 most, .int .i64 n] H fun u H' => u = .bool true ∧ H' = H := by
  refine AFn.calm (fun H0 hs => ?_) rfl
  refine AFn.enter mixed ir_law07_DeheapMakes_eq (by simp [ir_law07_DeheapMakes]) fun hw => ?_
  obtain ⟨N, hN⟩ : ∃ N : Nat, (if n > 0 then n else 0).tmod 20 = (N : Int) := ⟨((if n > 0 then n else 0).tmod 20).toNat, by rw [Int.tmod_eq_emod_of_nonneg (by split <;> omega)]; omega⟩
  have hN20 : N < 20 := by rw [Int.tmod_eq_emod_of_nonneg (by split <;> omega)] at hN; omega
  have hk3 : IntKind.i64.wrap ((if kind > 0 then kind else 0).tmod 3) = (if kind > 0 then kind else 0).tmod 3 := IntWalk.i64_in _ (by rw [Int.tmod_eq_emod_of_nonneg (by split <;> omega)]; omega)
  simp (disch := omega) [-getElem?_pos, if_pos, if_neg, decide_eq_true, decide_eq_false, ir_law07_DeheapMakes, over, hN]
  generalize hHb : AH.alloc H0 _ = Hb
  have kb : Keep [] H0 Hb := by rw [← hHb]; exact .alloc
  have wb : WF Hb := by rw [← hHb]; exact hw.alloc
  have hcb : Hb.cells H0.next = some (two most ((if most > 0 then most else 0).tmod 30)) := by rw [← hHb]; exact AH.cells_alloc_new
  clear hHb
  refine wpC_use (makes_l1 (q := H0.next) (n := N) hN20 hk3 ⟨by simp, by simp, by simp, by simp, by simp, hcb, wb, .refl⟩) ?_
  rintro e env2 H2 ⟨rfl, w2, k2⟩ _
  have ht : tellV none = .tuple #[.agg #[.int .i64 0, .int .i64 0, .int .i64 0, .int .i64 0], .bool false] := rfl
  simp (disch := omega) [-getElem?_pos, if_pos, if_neg, decide_eq_true, decide_eq_false, ]
  refine nMin_spec.mono' fun u H3 w3 ⟨hu, k3⟩ => ?_
  subst hu
  simp (disch := omega) [-getElem?_pos, if_pos, if_neg, decide_eq_true, decide_eq_false, ht, writeA_row (blk0 _ T_key_Entry), over]
  refine nPopMax_spec.mono' fun u H4 w4 ⟨hu, k4⟩ => ?_
  subst hu
  simp (disch := omega) [-getElem?_pos, if_pos, if_neg, decide_eq_true, decide_eq_false, ht, writeA_row (blk0 _ T_key_Entry), over]
  refine AFn.pure wakes7_spec ?_
  simp (disch := omega) [-getElem?_pos, if_pos, if_neg, decide_eq_true, decide_eq_false, ]
  refine AFn.pure nLen_spec ?_
  simp (disch := omega) [-getElem?_pos, if_pos, if_neg, decide_eq_true, decide_eq_false, ]
  refine nPush_spec.mono' fun u H5 w5 ⟨hu, k5⟩ => ?_
  subst hu
  simp (disch := omega) [-getElem?_pos, if_pos, if_neg, decide_eq_true, decide_eq_false, ]
  refine AFn.pure (nEvict_spec 3) ?_
  simp (disch := omega) [-getElem?_pos, if_pos, if_neg, decide_eq_true, decide_eq_false, ]
  refine (nDrop_spec 0).mono' fun u H6 w6 ⟨hu, k6⟩ => ?_
  subst hu
  simp (disch := omega) [-getElem?_pos, if_pos, if_neg, decide_eq_true, decide_eq_false, ]
  refine AFn.pure nSorted_spec ?_
  simp (disch := omega) [-getElem?_pos, if_pos, if_neg, decide_eq_true, decide_eq_false, ]
  refine AFn.pure nRoom_spec ?_
  simp (disch := omega) [-getElem?_pos, if_pos, if_neg, decide_eq_true, decide_eq_false, ]
end Go.Proofs.Ytgecnmjohhmfjaa
