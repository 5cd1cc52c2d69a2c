/-
  Contracts of package bitset (2).
-/
import Derived.Test.YtakdkbdjjlmccaaDoorBitSet
set_option maxRecDepth 100000
set_option linter.unusedSimpArgs false
set_option linter.unusedVariables false
namespace Go.Proofs.YtakdkbdjjlmccaaDoor
open Go Go.Abs
theorem or_bitwise : Bitwise (fun a b => a ||| b) (fun a b => a || b) := ⟨fun _ _ h k => or_lt' h k, fun a b j _ => Nat.testBit_or a b j⟩
theorem and_bitwise : Bitwise (fun a b => a &&& b) (fun a b => a && b) := ⟨fun _ _ h _ => and_lt' h, fun a b j _ => Nat.testBit_and a b j⟩
theorem less_bitwise : Bitwise andNotN (fun a b => a && !b) := ⟨fun a b _ _ => andNotN_lt a b, fun a b j h => andNotN_bit a b j h⟩
theorem xor_bitwise : Bitwise (fun a b => a ^^^ b) (fun a b => a ^^ b) := ⟨fun _ _ h k => xor_lt' h k, fun a b j _ => Nat.testBit_xor a b j⟩
theorem Or1_spec {H : AH} {a b : Nat} (ha : a < 18446744073709551616) (hb : b < 18446744073709551616) : AFn Tryd.prog F_bitset_Set_Or_1 [uv a, uv b] H fun u H' => u = uv (a ||| b) ∧ H' = H := by
  refine AFn.enter mixed ir_bitset_Set_Or_1_eq (by simp [ir_bitset_Set_Or_1]) fun hw => ?_
  have h := uv_or ha hb
  simp (disch := omega) [-getElem?_pos, if_pos, if_neg, decide_eq_true, decide_eq_false, ir_bitset_Set_Or_1, ↓h]
theorem And1_spec {H : AH} {a b : Nat} (ha : a < 18446744073709551616) (hb : b < 18446744073709551616) : AFn Tryd.prog F_bitset_Set_And_1 [uv a, uv b] H fun u H' => u = uv (a &&& b) ∧ H' = H := by
  refine AFn.enter mixed ir_bitset_Set_And_1_eq (by simp [ir_bitset_Set_And_1]) fun hw => ?_
  have h := uv_and ha hb
  simp (disch := omega) [-getElem?_pos, if_pos, if_neg, decide_eq_true, decide_eq_false, ir_bitset_Set_And_1, ↓h]
theorem Less1_spec {H : AH} {a b : Nat} (ha : a < 18446744073709551616) (hb : b < 18446744073709551616) : AFn Tryd.prog F_bitset_Set_Less_1 [uv a, uv b] H fun u H' => u = uv (andNotN a b) ∧ H' = H := by
  refine AFn.enter mixed ir_bitset_Set_Less_1_eq (by simp [ir_bitset_Set_Less_1]) fun hw => ?_
  have h := uv_andNot (a := a) (b := b)
  simp (disch := omega) [-getElem?_pos, if_pos, if_neg, decide_eq_true, decide_eq_false, ir_bitset_Set_Less_1, ↓h]
section
variable {p : Nat → Prop} {H : AH} {v w : Value} {A B : List Bool}
theorem Or_spec (hA : SetB p H v A) (hB : SetB p H w B) : AFn Tryd.prog F_bitset_Set_Or [v, w] H fun u H' => SetB (fun b => H.next ≤ b) H' u (eachB (fun a b => a || b) A B) ∧ Keep [] H H' := by
  have kA := hA
  have kB := hB
  obtain ⟨sa, rfl, _, _⟩ := kA
  obtain ⟨sb, rfl, _, _⟩ := kB
  refine AFn.enter mixed ir_bitset_Set_Or_eq (by simp [ir_bitset_Set_Or]) fun hw => ?_
  simp (disch := omega) [-getElem?_pos, if_pos, if_neg, decide_eq_true, decide_eq_false, ir_bitset_Set_Or, cut]
  generalize hH1 : ((H.alloc (.row [.int .i64 A.length, sa] T_bitset_Set true)).alloc (.row [.int .i64 B.length, sb] T_bitset_Set true)).alloc (.row [.int .i64 0, .slice none 0 0] T_bitset_Set true) = H1
  have hk1 : Keep [] H H1 := by rw [← hH1]; exact .new_alloc (.new_alloc .alloc)
  have hw1 : WF H1 := by rw [← hH1]; exact hw.alloc.alloc.alloc
  have hn1 : H1.next = H.next + 3 := by rw [← hH1]; simp
  have hb2 : H1.blk (H.next + 2) = some (.row [.int .i64 0, .slice none 0 0] T_bitset_Set true) := by rw [← hH1]; simp; try omega
  refine (each_spec (hA.kept hw hk1) (hB.kept hw hk1) good_bitset_Set_Or_1 or_bitwise fun _ _ _ h k => Or1_spec h k).mono' fun u H2 w2 ⟨h2, k2⟩ => ?_
  have hc2 : H2.blk (H.next + 2) = some (.row [.int .i64 0, .slice none 0 0] T_bitset_Set true) := by rw [k2.blk _ (by omega) (by simp), hb2]
  have h3 := h2
  obtain ⟨so, rfl, o1, o2⟩ := h2
  simp (disch := omega) [-getElem?_pos, if_pos, if_neg, decide_eq_true, decide_eq_false, writeA, hc2, cut]
  exact ⟨(h3.over fun b hb => AH.cells_set_ne (by omega)).mono fun b hb => by omega, .new_set (by omega) (hk1.trans' k2)⟩
theorem And_spec (hA : SetB p H v A) (hB : SetB p H w B) : AFn Tryd.prog F_bitset_Set_And [v, w] H fun u H' => SetB (fun b => H.next ≤ b) H' u (eachB (fun a b => a && b) A B) ∧ Keep [] H H' := by
  have kA := hA
  have kB := hB
  obtain ⟨sa, rfl, _, _⟩ := kA
  obtain ⟨sb, rfl, _, _⟩ := kB
  refine AFn.enter mixed ir_bitset_Set_And_eq (by simp [ir_bitset_Set_And]) fun hw => ?_
  simp (disch := omega) [-getElem?_pos, if_pos, if_neg, decide_eq_true, decide_eq_false, ir_bitset_Set_And, cut]
  generalize hH1 : ((H.alloc (.row [.int .i64 A.length, sa] T_bitset_Set true)).alloc (.row [.int .i64 B.length, sb] T_bitset_Set true)).alloc (.row [.int .i64 0, .slice none 0 0] T_bitset_Set true) = H1
  have hk1 : Keep [] H H1 := by rw [← hH1]; exact .new_alloc (.new_alloc .alloc)
  have hw1 : WF H1 := by rw [← hH1]; exact hw.alloc.alloc.alloc
  have hn1 : H1.next = H.next + 3 := by rw [← hH1]; simp
  have hb2 : H1.blk (H.next + 2) = some (.row [.int .i64 0, .slice none 0 0] T_bitset_Set true) := by rw [← hH1]; simp; try omega
  refine (each_spec (hA.kept hw hk1) (hB.kept hw hk1) good_bitset_Set_And_1 and_bitwise fun _ _ _ h k => And1_spec h k).mono' fun u H2 w2 ⟨h2, k2⟩ => ?_
  have hc2 : H2.blk (H.next + 2) = some (.row [.int .i64 0, .slice none 0 0] T_bitset_Set true) := by rw [k2.blk _ (by omega) (by simp), hb2]
  have h3 := h2
  obtain ⟨so, rfl, o1, o2⟩ := h2
  simp (disch := omega) [-getElem?_pos, if_pos, if_neg, decide_eq_true, decide_eq_false, writeA, hc2, cut]
  exact ⟨(h3.over fun b hb => AH.cells_set_ne (by omega)).mono fun b hb => by omega, .new_set (by omega) (hk1.trans' k2)⟩
theorem Less_spec (hA : SetB p H v A) (hB : SetB p H w B) : AFn Tryd.prog F_bitset_Set_Less [v, w] H fun u H' => SetB (fun b => H.next ≤ b) H' u (eachB (fun a b => a && !b) A B) ∧ Keep [] H H' := by
  have kA := hA
  have kB := hB
  obtain ⟨sa, rfl, _, _⟩ := kA
  obtain ⟨sb, rfl, _, _⟩ := kB
  refine AFn.enter mixed ir_bitset_Set_Less_eq (by simp [ir_bitset_Set_Less]) fun hw => ?_
  simp (disch := omega) [-getElem?_pos, if_pos, if_neg, decide_eq_true, decide_eq_false, ir_bitset_Set_Less, cut]
  generalize hH1 : ((H.alloc (.row [.int .i64 A.length, sa] T_bitset_Set true)).alloc (.row [.int .i64 B.length, sb] T_bitset_Set true)).alloc (.row [.int .i64 0, .slice none 0 0] T_bitset_Set true) = H1
  have hk1 : Keep [] H H1 := by rw [← hH1]; exact .new_alloc (.new_alloc .alloc)
  have hw1 : WF H1 := by rw [← hH1]; exact hw.alloc.alloc.alloc
  have hn1 : H1.next = H.next + 3 := by rw [← hH1]; simp
  have hb2 : H1.blk (H.next + 2) = some (.row [.int .i64 0, .slice none 0 0] T_bitset_Set true) := by rw [← hH1]; simp; try omega
  refine (each_spec (hA.kept hw hk1) (hB.kept hw hk1) good_bitset_Set_Less_1 less_bitwise fun _ _ _ h k => Less1_spec h k).mono' fun u H2 w2 ⟨h2, k2⟩ => ?_
  have hc2 : H2.blk (H.next + 2) = some (.row [.int .i64 0, .slice none 0 0] T_bitset_Set true) := by rw [k2.blk _ (by omega) (by simp), hb2]
  have h3 := h2
  obtain ⟨so, rfl, o1, o2⟩ := h2
  simp (disch := omega) [-getElem?_pos, if_pos, if_neg, decide_eq_true, decide_eq_false, writeA, hc2, cut]
  exact ⟨(h3.over fun b hb => AH.cells_set_ne (by omega)).mono fun b hb => by omega, .new_set (by omega) (hk1.trans' k2)⟩
theorem Within_spec (hA : SetB p H v A) (hB : SetB p H w B) : AFn Tryd.prog F_bitset_Set_Within [v, w] H fun u H' => u = .bool (decide ((eachB (fun a b => a && !b) A B).count true = 0)) ∧ H' = H := by
  refine AFn.calm (fun H0 hs => ?_) rfl
  have kA := hA.same hs
  have kB := hB.same hs
  obtain ⟨sa, rfl, _, _⟩ := id kA
  obtain ⟨sb, rfl, _, _⟩ := id kB
  refine AFn.enter mixed ir_bitset_Set_Within_eq (by simp [ir_bitset_Set_Within]) fun hw => ?_
  have hk1 : Keep [] H0 ((H0.alloc (.row [.int .i64 A.length, sa] T_bitset_Set true)).alloc (.row [.int .i64 B.length, sb] T_bitset_Set true)) := .new_alloc .alloc
  simp (disch := omega) [-getElem?_pos, if_pos, if_neg, decide_eq_true, decide_eq_false, ir_bitset_Set_Within, cut]
  refine (Less_spec (kA.kept hw hk1) (kB.kept hw hk1)).mono' fun u H2 w2 ⟨h2, k2⟩ => ?_
  simp (disch := omega) [-getElem?_pos, if_pos, if_neg, decide_eq_true, decide_eq_false, ]
  refine AFn.pure (Count_spec h2) ?_
  simp (disch := omega) [-getElem?_pos, if_pos, if_neg, decide_eq_true, decide_eq_false, ]
theorem words_inj {A B : List Bool} (hl : A.length = B.length) (h : words A = words B) : A = B := by
  apply List.ext_getElem hl
  intro i h1 h2
  have hk := nw_lt h1
  have e1 := words_get A (i / 64) hk
  have e2 := words_get B (i / 64) (by rw [← hl]; exact hk)
  rw [h, e2] at e1
  have hw : wb B (i / 64) = wb A (i / 64) := Option.some.inj e1
  have b1 := wb_bit A (i / 64) (i % 64) (by omega)
  have b2 := wb_bit B (i / 64) (i % 64) (by omega)
  rw [show 64 * (i / 64) + i % 64 = i by omega] at b1 b2
  rw [← hw, b2] at b1
  simp only [List.getD_eq_getElem?_getD, List.getElem?_eq_getElem h1, List.getElem?_eq_getElem h2, Option.getD_some] at b1
  exact b1.symm
theorem EqualW_spec {sa sb : Value} {l m : List Nat} (ha : Vw p H 1 sa l.length (l.map uv)) (hb : Vw p H 1 sb m.length (m.map uv)) (hl : l.length < 1000000) : AFn Tryd.prog F_slices_Equal_Luint64_uint64 [sa, sb] H fun u H' => u = .bool (decide (l = m)) ∧ H' = H := by
  refine AFn.calm (fun H0 hs => ?_) rfl
  have ha := ha.same hs
  have hb := hb.same hs
  refine AFn.enter mixed ir_slices_Equal_Luint64_uint64_eq (by simp [ir_slices_Equal_Luint64_uint64]) fun hw => ?_
  obtain ⟨aa, ca, rfl⟩ := ha.slice
  obtain ⟨ab, cb, rfl⟩ := hb.slice
  by_cases hlen : l.length = m.length
  · simp (disch := omega) [-getElem?_pos, if_pos, if_neg, decide_eq_true, decide_eq_false, ir_slices_Equal_Luint64_uint64, hlen]
    refine wpC_use (loop_upto l.length (fun k env H' => H' = H0 ∧ env 0 = some (.slice aa l.length ca) ∧ env 1 = some (.slice ab m.length cb) ∧ env 12 = some (.int .i64 (l.length : Nat)) ∧ env 13 = some (.int .i64 k) ∧ l.take k = m.take k)
      (Q := fun e env H' => (e = .exit 0 ∧ l = m) ∨ (e = .ret ∧ env 4 = some (.bool false) ∧ l ≠ m)) (by simp [hlen]) ?_) fun e env2 H2 he _ => ?_
    · rintro k env H' hk ⟨rfl, e0, e1, e12, e13, htk⟩
      by_cases hkn : k < l.length
      · obtain ⟨b1, o1, s1, c1, cs1, hsl1, _, _, q1, _, q2, _⟩ := ha.at (by omega)
        obtain ⟨b2, o2, s2, c2, cs2, hsl2, _, _, r1, _, r2, _⟩ := hb.at (by omega)
        cases hsl1
        cases hsl2
        have g1 : cs1[o1 + k]? = some (uv l[k]) := by rw [q2 k (by omega), List.getElem?_map, List.getElem?_eq_getElem (by omega)]; rfl
        have g2 : cs2[o2 + k]? = some (uv m[k]) := by rw [r2 k (by omega), List.getElem?_map, List.getElem?_eq_getElem (by omega)]; rfl
        have h1 := uv_neq (a := l[k]) (b := m[k])
        have ht : l.take (k + 1) = l.take k ++ [l[k]] := by rw [List.take_succ_eq_append_getElem]
        have ht2 : m.take (k + 1) = m.take k ++ [m[k]] := by rw [List.take_succ_eq_append_getElem]
        by_cases hx : l[k] = m[k]
        · rw [hx] at h1 g1 ht
          simp only [ne_eq, not_true, decide_false] at h1
          have hfin : l.take (k + 1) = m.take (k + 1) := by rw [ht, ht2, htk]
          clear ht ht2 hx
          generalize m[k] = y at *
          simp (disch := omega) [-getElem?_pos, if_pos, if_neg, decide_eq_true, decide_eq_false, ir_slices_Equal_Luint64_uint64_l0, e0, e1, e12, e13, q1, r1, g1, g2, ↓h1, IntWalk.i64_in]
          exact ⟨hkn, hfin⟩
        · simp only [ne_eq, hx, not_false_eq_true, decide_true] at h1
          have hne : l ≠ m := fun hc => hx (by subst hc; rfl)
          clear ht ht2 hx
          generalize m[k] = y at *
          generalize l[k] = x at *
          simp (disch := omega) [-getElem?_pos, if_pos, if_neg, decide_eq_true, decide_eq_false, ir_slices_Equal_Luint64_uint64_l0, e0, e1, e12, e13, q1, r1, g1, g2, ↓h1, IntWalk.i64_in, hne]
      · obtain rfl : k = l.length := by omega
        simp (disch := omega) [-getElem?_pos, if_pos, if_neg, decide_eq_true, decide_eq_false, ir_slices_Equal_Luint64_uint64_l0, e12, e13]
        rw [List.take_of_length_le (Nat.le_refl _), List.take_of_length_le (by omega)] at htk
        exact htk
    · rcases he with ⟨rfl, rfl⟩ | ⟨rfl, h4, hne⟩
      · simp (disch := omega) [-getElem?_pos, if_pos, if_neg, decide_eq_true, decide_eq_false, ]
      · simp (disch := omega) [-getElem?_pos, if_pos, if_neg, decide_eq_true, decide_eq_false, h4, hne]
  · have hne : l ≠ m := fun hc => hlen (by rw [hc])
    simp (disch := omega) [-getElem?_pos, if_pos, if_neg, decide_eq_true, decide_eq_false, ir_slices_Equal_Luint64_uint64, hlen, hne]
theorem Equal_spec (hA : SetB p H v A) (hB : SetB p H w B) : AFn Tryd.prog F_bitset_Set_Equal [v, w] H fun u H' => u = .bool (decide (A = B)) ∧ H' = H := by
  refine AFn.calm (fun H0 hs => ?_) rfl
  obtain ⟨sa, rfl, a2, a3⟩ := hA.same hs
  obtain ⟨sb, rfl, b2, b3⟩ := hB.same hs
  refine AFn.enter mixed ir_bitset_Set_Equal_eq (by simp [ir_bitset_Set_Equal]) fun hw => ?_
  have hk1 : Keep [] H0 ((H0.alloc (.row [.int .i64 A.length, sa] T_bitset_Set true)).alloc (.row [.int .i64 B.length, sb] T_bitset_Set true)) := .new_alloc .alloc
  by_cases hlen : A.length = B.length
  · simp (disch := omega) [-getElem?_pos, if_pos, if_neg, decide_eq_true, decide_eq_false, ir_bitset_Set_Equal, hlen, cut]
    rw [hlen] at hk1
    have a2' := a2.kept hw (H' := (H0.alloc (.row [.int .i64 B.length, sa] T_bitset_Set true)).alloc (.row [.int .i64 B.length, sb] T_bitset_Set true)) hk1
    rw [hlen] at a2'
    refine AFn.pure (EqualW_spec (l := words A) (m := words B) (p := p) ?_ ?_ ?_) ?_
    · rw [words_length, hlen]; exact a2'
    · rw [words_length]; exact b2.kept hw hk1
    · rw [words_length]; unfold nw; omega
    · have : decide (words A = words B) = decide (A = B) := decide_eq_decide.2 ⟨words_inj hlen, fun h => by rw [h]⟩
      rw [this]
      simp (disch := omega) [-getElem?_pos, if_pos, if_neg, decide_eq_true, decide_eq_false, ]
  · have hne : A ≠ B := fun hc => hlen (by rw [hc])
    simp (disch := omega) [-getElem?_pos, if_pos, if_neg, decide_eq_true, decide_eq_false, ir_bitset_Set_Equal, hlen, hne, cut]
end
end Go.Proofs.YtakdkbdjjlmccaaDoor
