/-
  Contracts of package bitset (3): New, Full, List.
-/
import Derived.Test.YtakdkbdjjlmccaaDoorBitSet2
set_option maxRecDepth 100000
set_option linter.unusedSimpArgs false
set_option linter.unusedVariables false
namespace Go.Proofs.YtakdkbdjjlmccaaDoor
open Go Go.Abs
def sizeOk (s : Int) : Bool := decide (0 ≤ s ∧ s ≤ 4096)
def nOk (s : Int) : Nat := if sizeOk s then s.toNat else 0
def eOk (s : Int) : Int := if sizeOk s then 0 else 2
def NewPost (H : AH) (s : Int) (u : Value) (H' : AH) : Prop :=
  ∃ sl S, u = .tuple #[.agg #[.int .i64 (nOk s), sl], .int .i64 (eOk s)] ∧ Own H' T_uint64 1 sl (nw (nOk s)) ((words (List.replicate (nOk s) false)).map uv) S ∧ Keep [] H H' ∧ (∀ b ∈ S, H.next ≤ b)
theorem zeros_uv (n : Nat) : zeros [uv 0] n = (List.replicate n 0).map uv := by
  induction n with
  | zero => rfl
  | succ n ih => simp only [zeros, ih, List.replicate_succ, List.map_cons]; rfl
theorem wb_false (n k : Nat) : wb (List.replicate n false) k = 0 := by
  refine (wb_eq (x := 0) (by omega) fun j hj => ?_).symm
  rw [Nat.zero_testBit, List.getD_eq_getElem?_getD, List.getElem?_replicate]
  split <;> rfl
theorem words_false (n : Nat) : words (List.replicate n false) = List.replicate (nw n) 0 := by
  unfold words
  rw [List.length_replicate, show (wb (List.replicate n false)) = fun _ => 0 from funext (wb_false n)]
  rw [List.map_const', List.length_range]
theorem New_spec {H : AH} (s : Int) (hs : -9223372036854775808 ≤ s ∧ s ≤ 9223372036854775807) : AFn Tryd.prog F_bitset_New [.int .i64 s] H (NewPost H s) := by
  refine AFn.enter mixed ir_bitset_New_eq (by simp [ir_bitset_New]) fun hw => ?_
  have hbad : sizeOk s = false → ∀ H', Keep [] H H' → NewPost H s (.tuple #[.agg #[.int .i64 0, .slice none 0 0], .int .i64 2]) H' := by
    intro h H' hk
    have e1 : nOk s = 0 := by simp [nOk, h]
    have e2 : eOk s = 2 := by simp [eOk, h]
    unfold NewPost
    rw [e1, e2]
    exact ⟨_, [], rfl, .nil, hk, by simp⟩
  by_cases h0 : s < 0
  · have : sizeOk s = false := by simp [sizeOk]; omega
    simp (disch := omega) [-getElem?_pos, if_pos, if_neg, decide_eq_true, decide_eq_false, ir_bitset_New, writeA, cut]
    exact hbad this _ .alloc
  · by_cases h1 : s > 4096
    · have : sizeOk s = false := by simp [sizeOk]; omega
      simp (disch := omega) [-getElem?_pos, if_pos, if_neg, decide_eq_true, decide_eq_false, ir_bitset_New, writeA, cut]
      exact hbad this _ .alloc
    · have hok : sizeOk s = true := by simp [sizeOk]; omega
      obtain ⟨n, rfl⟩ := Int.eq_ofNat_of_zero_le (show 0 ≤ s by omega)
      have hq : ((n : Int) + 64 - 1).tdiv 64 = ((nw n : Nat) : Int) := by
        rw [show (n : Int) + 64 - 1 = ((n + 63 : Nat) : Int) by omega, tq64]; rfl
      have hnn : nw n ≤ 65 := by unfold nw; omega
      have e1 : nOk (n : Int) = n := by simp [nOk, hok]
      have e2 : eOk (n : Int) = 0 := by simp [eOk, hok]
      clear hbad
      simp (disch := omega) [-getElem?_pos, if_pos, if_neg, decide_eq_true, decide_eq_false, ir_bitset_New, writeA, cut, IntWalk.i64_in, hq]
      unfold NewPost
      rw [e1, e2]
      refine ⟨_, [H.next + 1], rfl, ?_, .new_set (by omega) (.new_alloc .alloc), by simp⟩
      refine .inr ⟨H.next + 1, 0, none, nw n, _, rfl, rfl, by simp; rfl, ?_, Nat.le_refl _, ?_, .inl rfl⟩
      · rw [zeros_uv]; simp
      · rw [words_false, zeros_uv, List.drop_zero, List.take_of_length_le (by simp)]
theorem wb_true {n k : Nat} (h : 64 * k + 64 ≤ n) : 18446744073709551615 = wb (List.replicate n true) k := by
  refine wb_eq (by omega) fun j hj => ?_
  rw [show (18446744073709551615 : Nat) = 2 ^ 64 - 1 from by decide, Nat.testBit_two_pow_sub_one, List.getD_eq_getElem?_getD, List.getElem?_replicate, if_pos (by omega)]
  simp [hj]
theorem wb_true_last {n k r : Nat} (h : 64 * k + r = n) (hr : r < 64) : 2 ^ r - 1 = wb (List.replicate n true) k := by
  have : 2 ^ r < 18446744073709551616 := Nat.pow_lt_pow_right (a := 2) (n := 64) (by omega) hr
  refine wb_eq (by omega) fun j hj => ?_
  rw [Nat.testBit_two_pow_sub_one, List.getD_eq_getElem?_getD, List.getElem?_replicate]
  by_cases hjr : j < r
  · rw [if_pos (by omega)]; simp [hjr]
  · rw [if_neg (by omega)]; simp [hjr]
theorem Full_spec {H : AH} (s : Int) (hs : -9223372036854775808 ≤ s ∧ s ≤ 9223372036854775807) : AFn Tryd.prog F_bitset_Full [.int .i64 s] H fun u H' =>
    ∃ sv, u = .tuple #[sv, .int .i64 (eOk s)] ∧ SetB (fun b => H.next ≤ b) H' sv (List.replicate (nOk s) true) ∧ Keep [] H H' := by
  refine AFn.enter mixed ir_bitset_Full_eq (by simp [ir_bitset_Full]) fun hw => ?_
  simp (disch := omega) [-getElem?_pos, if_pos, if_neg, decide_eq_true, decide_eq_false, ir_bitset_Full]
  generalize hH1 : H.alloc (.row [.int .i64 0, .slice none 0 0] T_bitset_Set true) = H1
  have hk1 : Keep [] H H1 := by rw [← hH1]; exact .alloc
  have hn1 : H1.next = H.next + 1 := by rw [← hH1]; simp
  have hb1 : H1.blk H.next = some (.row [.int .i64 0, .slice none 0 0] T_bitset_Set true) := by rw [← hH1]; simp
  refine (New_spec s hs).mono' fun u H2 w2 ⟨sl, S, hu, o1, k2, hS⟩ => ?_
  subst hu
  have hn2 := k2.next
  have hb2 : H2.blk H.next = some (.row [.int .i64 0, .slice none 0 0] T_bitset_Set true) := by rw [k2.blk _ (by omega) (by simp), hb1]
  have hnok : nOk s ≤ 4096 ∧ (s.tmod 64 > 0 → eOk s = 0 → s = nOk s) ∧ (¬ (s.tmod 64 > 0 ∧ eOk s = 0) → nOk s % 64 = 0) := by
    unfold nOk eOk sizeOk
    by_cases h : 0 ≤ s ∧ s ≤ 4096
    · obtain ⟨n, rfl⟩ := Int.eq_ofNat_of_zero_le h.1
      have := tr64 n
      simp [h]
      omega
    · simp [h]
  have heo : eOk s = 0 ∨ eOk s = 2 := by unfold eOk; split <;> simp
  generalize eOk s = e at *
  generalize nOk s = n at *
  obtain ⟨hn, hg1, hg2⟩ := hnok
  obtain ⟨a, c, rfl⟩ := o1.slice
  simp (disch := omega) [-getElem?_pos, if_pos, if_neg, decide_eq_true, decide_eq_false, writeA, cut]
  generalize hH3 : H2.alloc (.row [.int .i64 n, .slice a (nw n) c] T_bitset_Set true) = H3
  have hw3 : WF H3 := by rw [← hH3]; exact w2.alloc
  have hk3 : Keep [] H H3 := by rw [← hH3]; exact .new_alloc (hk1.trans' k2)
  have hd1 : H3.blk H.next = some (.row [.int .i64 0, .slice none 0 0] T_bitset_Set true) := by rw [← hH3, AH.alloc_blk_ne (by omega), hb2]
  have hd3 : H3.blk H2.next = some (.row [.int .i64 n, .slice a (nw n) c] T_bitset_Set true) := by rw [← hH3]; simp
  have ho3 : Own H3 T_uint64 1 (.slice a (nw n) c) (nw n) ((words (List.replicate n false)).map uv) S := by rw [← hH3]; exact o1.alloc w2
  have hS3 : ∀ b ∈ S, H.next + 1 ≤ b ∧ b < H2.next := fun b hb => ⟨by have := hS b hb; omega, o1.lt w2 b hb⟩
  have hnn : nw n ≤ 65 := by unfold nw; omega
  refine wpC_use (loop_upto (nw n) (fun k env H' => WF H' ∧ Keep [] H H' ∧ H'.blk H.next = some (.row [.int .i64 0, .slice none 0 0] T_bitset_Set true) ∧ H'.blk H2.next = some (.row [.int .i64 n, .slice a (nw n) c] T_bitset_Set true) ∧
    Own H' T_uint64 1 (.slice a (nw n) c) (nw n) ((List.range (nw n)).map fun j => uv (if j < k then 18446744073709551615 else 0)) S ∧
    env 0 = some (.int .i64 s) ∧ env 2 = some (.pointer (some ⟨H.next, 0, none⟩)) ∧ env 4 = some (.pointer (some ⟨H2.next, 0, none⟩)) ∧ env 5 = some (.int .i64 e) ∧ env 15 = some (.int .i64 (nw n : Nat)) ∧ env 16 = some (.int .i64 k))
    (Q := fun ex env H' => ex = .exit 0 ∧ Keep [] H H' ∧ H'.blk H.next = some (.row [.int .i64 0, .slice none 0 0] T_bitset_Set true) ∧ H'.blk H2.next = some (.row [.int .i64 n, .slice a (nw n) c] T_bitset_Set true) ∧
    Own H' T_uint64 1 (.slice a (nw n) c) (nw n) ((List.range (nw n)).map fun j => uv 18446744073709551615) S ∧
    env 0 = some (.int .i64 s) ∧ env 2 = some (.pointer (some ⟨H.next, 0, none⟩)) ∧ env 4 = some (.pointer (some ⟨H2.next, 0, none⟩)) ∧ env 5 = some (.int .i64 e))
    ⟨hw3, hk3, hd1, hd3, by rw [words_false] at ho3; simpa [List.map_const'] using ho3, by simp, by simp, by simp, by simp, by simp, by simp⟩ ?_) fun ex env2 H4 ⟨he, k4, g1, g3, g4, g0, g2, g5, g6⟩ _ => ?_
  · rintro k env H' hk ⟨w', k', d1, d3, o', e0, e2, e4, e5, e15, e16⟩
    by_cases hkn : k < nw n
    · obtain ⟨b2, off2, sp2, cap2, cs2, hsl2, rfl, q1, q2, q3, q4⟩ := o'.pos (by omega)
      cases hsl2
      obtain ⟨p1, p2, _⟩ := o'.write q1 (k := k) (news := [uv 18446744073709551615]) (by simp; omega)
      have hS' := hS3 b2 (by simp)
      simp (disch := omega) [-getElem?_pos, if_pos, if_neg, decide_eq_true, decide_eq_false, ir_bitset_Full_l0, e0, e2, e4, e5, e15, e16, AH.cells_of d3, p1, IntWalk.i64_in]
      refine ⟨hkn, w'.set (w'.lt q1), .new_set (by omega) k', d1, d3, ?_⟩
      rw [over_one (cells := (List.range (nw n)).map fun j => uv (if j < k then 18446744073709551615 else 0)) (by simpa using hkn)] at p2
      rw [show ((List.range (nw n)).map fun j => uv (if j < k + 1 then 18446744073709551615 else 0)) = ((List.range (nw n)).map fun j => uv (if j < k then 18446744073709551615 else 0)).set k (uv 18446744073709551615) from ?_]
      · exact p2
      · apply List.ext_getElem (by simp)
        intro j h1 h2
        simp only [List.getElem_map, List.getElem_range, List.getElem_set]
        by_cases hj : k = j
        · subst hj; simp
        · rw [if_neg hj]
          by_cases hlt : j < k
          · rw [if_pos hlt, if_pos (by omega)]
          · rw [if_neg hlt, if_neg (by omega)]
    · obtain rfl : k = nw n := by omega
      simp (disch := omega) [-getElem?_pos, if_pos, if_neg, decide_eq_true, decide_eq_false, ir_bitset_Full_l0, e15, e16]
      refine ⟨k', d1, d3, ?_, e0, e2, e4, e5⟩
      rw [show ((List.range (nw n)).map fun j => uv 18446744073709551615) = ((List.range (nw n)).map fun j => uv (if j < nw n then 18446744073709551615 else 0)) from List.map_congr_left fun j hj => by rw [if_pos (by simpa using hj)]]
      exact o'
  · subst he
    by_cases hr : s.tmod 64 > 0 ∧ e = 0
    · obtain ⟨hr1, rfl⟩ := hr
      have hsn := hg1 hr1 rfl
      subst hsn
      have hm := tr64 n
      obtain ⟨m, hmn⟩ : ∃ m, nw n = m + 1 := ⟨nw n - 1, by unfold nw; omega⟩
      have hlast : 64 * m + n % 64 = n := by unfold nw at hmn; omega
      obtain ⟨b2, off2, sp2, cap2, cs2, hsl2, rfl, q1, q2, q3, q4⟩ := g4.pos (by omega)
      cases hsl2
      have hS' := hS3 b2 (by simp)
      obtain ⟨r, hrr⟩ : ∃ r, r = n % 64 := ⟨_, rfl⟩
      rw [← hrr] at hm hlast
      have hr64 : r < 64 := by omega
      have h2r : 2 ^ r < 18446744073709551616 := Nat.pow_lt_pow_right (a := 2) (n := 64) (by omega) hr64
      have h2p : 1 ≤ 2 ^ r := Nat.one_le_two_pow
      have s1 : abin .shl (uv 1) (.int .i64 (r : Int)) = some (uv (2 ^ r)) := uv_shl1 hr64
      have s2 : abin .sub (uv (2 ^ r)) (uv 1) = some (uv (wb (List.replicate n true) m)) := by rw [← wb_true_last hlast hr64]; exact uv_sub h2p h2r
      obtain ⟨p1, p2, _⟩ := g4.write q1 (k := m) (news := [uv (wb (List.replicate n true) m)]) (by simp; omega)
      generalize 2 ^ r = p0 at *
      have hi1 : (nw n : Int) - 1 = (m : Int) := by omega
      have hrpos : (r : Int) > 0 := by omega
      simp (disch := omega) [-getElem?_pos, if_pos, if_neg, decide_eq_true, decide_eq_false, g0, g5, g6, g2, AH.cells_of g3, g1, hm, hrpos, cut, hi1, IntWalk.i64_in, ↓s1, ↓s2, p1]
      have hb1' : (H4.set b2 (.row (over cs2 (off2 + m) [uv (wb (List.replicate n true) m)]) T_uint64 true)).blk H.next = some (.row [.int .i64 0, .slice none 0 0] T_bitset_Set true) := by rw [AH.set_blk_ne (by omega), g1]
      have hb3' : (H4.set b2 (.row (over cs2 (off2 + m) [uv (wb (List.replicate n true) m)]) T_uint64 true)).cells H2.next = some [.int .i64 n, .slice (some ⟨b2, off2, sp2⟩) (nw n) c] := by rw [AH.cells_set_ne (by omega), AH.cells_of g3]
      generalize hH5 : H4.set b2 (.row (over cs2 (off2 + m) [uv (wb (List.replicate n true) m)]) T_uint64 true) = H5 at *
      simp (disch := omega) [-getElem?_pos, if_pos, if_neg, decide_eq_true, decide_eq_false, g0, g5, g6, g2, hb1', hb3', cut, writeA]
      refine ⟨?_, .new_set (by omega) (by rw [← hH5]; exact .new_set (by omega) k4)⟩
      refine SetO.setB (n := n) (ws := words (List.replicate n true)) (S := [b2]) ⟨_, rfl, ?_, rfl⟩ (by simp) rfl hn (fun b hb => by have := hS3 b hb; omega)
      rw [show (words (List.replicate n true)).map uv = over ((List.range (nw n)).map fun j => uv 18446744073709551615) m [uv (wb (List.replicate n true) m)] from ?_]
      · exact p2.keep fun b hb => AH.set_blk_ne (by have := hS3 b hb; omega)
      · rw [over_one (by simp; omega)]
        unfold words
        rw [List.length_replicate, List.map_map]
        apply List.ext_getElem (by simp)
        intro j h1 h2
        simp only [List.length_map, List.length_range] at h1
        simp only [List.getElem_map, List.getElem_range, List.getElem_set, Function.comp_apply]
        by_cases hj : m = j
        · subst hj; simp
        · rw [if_neg hj]
          congr 1
          exact (wb_true (by unfold nw at h1 hmn; omega)).symm
    · have hn64 := hg2 hr
      have hfin : Own H4 T_uint64 1 (.slice a (nw n) c) (nw n) ((words (List.replicate n true)).map uv) S := by
        rw [show (words (List.replicate n true)).map uv = (List.range (nw n)).map fun j => uv 18446744073709551615 from ?_]
        · exact g4
        · unfold words
          rw [List.length_replicate, List.map_map]
          refine List.map_congr_left fun j hj => ?_
          simp only [Function.comp_apply]
          congr 1
          exact (wb_true (by have := List.mem_range.1 hj; unfold nw at this; omega)).symm
      have hdone : ∀ H5, H5 = H4.set H.next (.row [.int .i64 n, .slice a (nw n) c] T_bitset_Set true) → SetB (fun b => H.next ≤ b) H5 (.agg #[.int .i64 n, .slice a (nw n) c]) (List.replicate n true) ∧ Keep [] H H5 := by
        rintro _ rfl
        refine ⟨?_, .new_set (by omega) k4⟩
        refine SetO.setB (n := n) (ws := words (List.replicate n true)) (S := S) ⟨_, rfl, ?_, rfl⟩ (by simp) rfl hn (fun b hb => by have := hS3 b hb; omega)
        exact hfin.keep fun b hb => AH.set_blk_ne (by have := hS3 b hb; omega)
      by_cases hr1 : s.tmod 64 > 0
      · have hene : e ≠ 0 := fun h => hr ⟨hr1, h⟩
        simp (disch := omega) [-getElem?_pos, if_pos, if_neg, decide_eq_true, decide_eq_false, g0, g5, g6, g2, AH.cells_of g3, g1, hr1, cut, hene, writeA]
        exact hdone _ rfl
      · simp (disch := omega) [-getElem?_pos, if_pos, if_neg, decide_eq_true, decide_eq_false, g0, g5, g6, g2, AH.cells_of g3, g1, hr1, cut, writeA]
        exact hdone _ rfl
theorem next_ex (B : List Bool) (i : Nat) : ∃ r, NextIs B i r := by
  by_cases h : ∃ k, i ≤ k ∧ B.getD k false = true
  · obtain ⟨k, h1, h2⟩ := h
    have key : ∀ d k, k - i ≤ d → i ≤ k → B.getD k false = true → ∃ r, NextIs B i r := by
      intro d
      induction d with
      | zero => intro k hd h1 h2; exact ⟨k, .inr ⟨k, rfl, h1, getD_len h2, h2, fun j hj1 hj2 => by omega⟩⟩
      | succ d ih =>
        intro k hd h1 h2
        by_cases hx : ∃ j, i ≤ j ∧ j < k ∧ B.getD j false = true
        · obtain ⟨j, q1, q2, q3⟩ := hx
          exact ih j (by omega) q1 q3
        · refine ⟨k, .inr ⟨k, rfl, h1, getD_len h2, h2, fun j hj1 hj2 => ?_⟩⟩
          cases hb : B.getD j false with
          | false => rfl
          | true => exact absurd ⟨j, hj1, hj2, hb⟩ hx
    exact key (k - i) k (Nat.le_refl _) h1 h2
  · refine ⟨-1, .inl ⟨rfl, fun k hk => ?_⟩⟩
    cases hb : B.getD k false with
    | false => rfl
    | true => exact absurd ⟨k, hk, hb⟩ h
def idxTo (B : List Bool) (m : Nat) : List Nat := (List.range m).filter fun k => B.getD k false
def idxs (B : List Bool) : List Nat := idxTo B B.length
theorem idxTo_skip {B : List Bool} {m k : Nat} (h : m ≤ k) (hn : ∀ j, m ≤ j → j < k → B.getD j false = false) : idxTo B k = idxTo B m := by
  induction k with
  | zero => obtain rfl : m = 0 := by omega
            rfl
  | succ k ih =>
    by_cases hk : m = k + 1
    · rw [hk]
    · unfold idxTo
      rw [List.range_succ, List.filter_append]
      have := hn k (by omega) (by omega)
      simp only [List.filter_cons, this, List.filter_nil]
      simpa [idxTo] using ih (by omega) fun j h1 h2 => hn j h1 (by omega)
theorem idxTo_take {B : List Bool} {k : Nat} (h : B.getD k false = true) : idxTo B (k + 1) = idxTo B k ++ [k] := by
  unfold idxTo
  rw [List.range_succ, List.filter_append]
  rw [List.getD_eq_getElem?_getD] at h
  simp [List.filter_cons, h]
theorem idxTo_length (B : List Bool) (m : Nat) : (idxTo B m).length ≤ m := by
  unfold idxTo
  exact Nat.le_trans (List.length_filter_le _ _) (by simp)
def ListI (H : AH) (B : List Bool) (sl : Value) (j : Nat) (env : Env) (H' : AH) : Prop :=
  WF H' ∧ Keep [] H H' ∧ H'.blk H.next = some (.row [.int .i64 B.length, sl] T_bitset_Set true) ∧ env 1 = some (.pointer (some ⟨H.next, 0, none⟩)) ∧
    ∃ m r S out, j = B.length - m ∧ m ≤ B.length ∧ NextIs B m r ∧ env 4 = some (.int .i64 r) ∧ env 3 = some out ∧ Own H' T_int 1 out (idxTo B m).length ((idxTo B m).map fun k => .int .i64 (k : Nat)) S ∧ ∀ b ∈ S, H.next < b
def ListQ (H : AH) (B : List Bool) (e : AExit) (env : Env) (H' : AH) : Prop :=
  e = .exit 0 ∧ Keep [] H H' ∧ ∃ S out, env 3 = some out ∧ Own H' T_int 1 out (idxs B).length ((idxs B).map fun k => .int .i64 (k : Nat)) S ∧ ∀ b ∈ S, H.next < b
theorem List_spec {p : Nat → Prop} {H : AH} {v : Value} {B : List Bool} (hg : GroundA G H) (hB : SetB p H v B) : AFn Tryd.prog F_bitset_Set_List [v] H fun u H' =>
    ∃ S, Own H' T_int 1 u (idxs B).length ((idxs B).map fun k => .int .i64 (k : Nat)) S ∧ Keep [] H H' ∧ ∀ b ∈ S, H.next ≤ b := by
  obtain ⟨sl, rfl, h2, h3⟩ := id hB
  refine AFn.enter mixed ir_bitset_Set_List_eq (by simp [ir_bitset_Set_List]) fun hw => ?_
  simp (disch := omega) [-getElem?_pos, if_pos, if_neg, decide_eq_true, decide_eq_false, ir_bitset_Set_List, cut]
  generalize hH1 : H.alloc (.row [.int .i64 B.length, sl] T_bitset_Set true) = H1
  have hk1 : Keep [] H H1 := by rw [← hH1]; exact .alloc
  have hw1 : WF H1 := by rw [← hH1]; exact hw.alloc
  have hn1 : H1.next = H.next + 1 := by rw [← hH1]; simp
  have hb1 : H1.blk H.next = some (.row [.int .i64 B.length, sl] T_bitset_Set true) := by rw [← hH1]; simp
  obtain ⟨r0, hr0⟩ := next_ex B 0
  refine AFn.pure (Next_spec (hg.kept hw hk1) (hB.kept hw hk1) 0 r0 hr0) ?_
  simp (disch := omega) [-getElem?_pos, if_pos, if_neg, decide_eq_true, decide_eq_false, ]
  refine wpC_use (loop_rule (ListI H B sl) (Q := ListQ H B) ?_
    (j := B.length) ⟨hw1, hk1, hb1, by simp, 0, r0, [], .slice none 0 0, by omega, by omega, hr0, by simp, by simp, by simpa [idxTo] using Own.nil, by simp⟩) fun e env2 H4 ⟨he, k4, S, out, g3, g4, g5⟩ _ => ?_
  · rintro j env H' ⟨w', k', d1, e1, m, r, S, out, rfl, hm, hr, e4, e3, o', hS⟩
    rcases hr with ⟨rfl, hno⟩ | ⟨k, rfl, q1, q2, q3, q4⟩
    · simp (disch := omega) [-getElem?_pos, if_pos, if_neg, decide_eq_true, decide_eq_false, ir_bitset_Set_List_l0, e4]
      refine ⟨rfl, k', S, out, e3, ?_, hS⟩
      have : idxs B = idxTo B m := idxTo_skip hm fun j h1 _ => hno j h1
      rw [this]
      exact o'
    · have hlen := idxTo_length B m
      obtain ⟨a', c', H5, S5, p1, p2, p3, p4, p5⟩ := o'.push w' T_int 8 1 [.int .i64 (k : Nat)] (by simp) (by omega) (by omega)
      have hblk : H5.blk H.next = some (.row [.int .i64 B.length, sl] T_bitset_Set true) := by rw [p3.blk _ (w'.lt d1) (fun hc => by have := hS _ hc; omega), d1]
      have hkeep : Keep [] H H5 := k'.trans p3 fun b hb hlt => by have := hS b hb; omega
      obtain ⟨r', hr'⟩ := next_ex B (k + 1)
      have heq : idxTo B (k + 1) = idxTo B m ++ [k] := by rw [idxTo_take q3, idxTo_skip q1 q4]
      obtain ⟨ao, co, rfl⟩ := o'.slice
      simp (disch := omega) [-getElem?_pos, if_pos, if_neg, decide_eq_true, decide_eq_false, ir_bitset_Set_List_l0, e1, e3, e4, elemsA, cut, p1, IntWalk.i64_in]
      simp only [AH.cells_of hblk]
      simp (disch := omega) [-getElem?_pos, if_pos, if_neg, decide_eq_true, decide_eq_false, e1, e3, e4, cut, IntWalk.i64_in]
      refine AFn.pure (Next_spec (hg.kept hw hkeep) (hB.kept hw hkeep) ((k : Int) + 1) r' (by rw [show ((k : Int) + 1).toNat = k + 1 by omega]; exact hr')) ?_
      simp (disch := omega) [-getElem?_pos, if_pos, if_neg, decide_eq_true, decide_eq_false, e1]
      refine ⟨B.length - (k + 1), by omega, p4, hkeep, hblk, by simp [e1], k + 1, r', S5, _, rfl, by omega, hr', by simp, by simp; rfl, ?_, fun b hb => ?_⟩
      · rw [heq]
        simpa using p2
      · rcases p5 b hb with h | h
        · exact hS b h
        · have := k'.next; have := w'.lt d1; omega
  · subst he
    simp (disch := omega) [-getElem?_pos, if_pos, if_neg, decide_eq_true, decide_eq_false, g3]
    exact ⟨S, g4, k4, fun b hb => by have := g5 b hb; omega⟩
end Go.Proofs.YtakdkbdjjlmccaaDoor
