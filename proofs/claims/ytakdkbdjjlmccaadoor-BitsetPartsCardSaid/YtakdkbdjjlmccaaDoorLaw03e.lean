/-
  Layer 3: BitsetParts.
-/
import Derived.Test.YtakdkbdjjlmccaaDoorPartsP
import Derived.Test.YtakdkbdjjlmccaaDoorGrow
set_option maxRecDepth 100000
set_option linter.unusedSimpArgs false
set_option linter.unusedVariables false
namespace Go.Proofs.YtakdkbdjjlmccaaDoor
open Go Go.Abs
theorem Parts_spec {H : AH} (hg : GroundA G H) {s1 : Int} {lv mv : Value} {m n : Nat} {l l2 : List Int} (hs1 : -9223372036854775808 ≤ s1 ∧ s1 ≤ 9223372036854775807)
    (hl : Rd H 1 lv m (l.map (.int .i64))) (hm : m ≤ 9223372036854775807) (hl2 : Rd H 1 mv n (l2.map (.int .i64))) (hn : n ≤ 9223372036854775807) :
    AFn Tryd.prog F_law03_BitsetParts [.int .i64 s1, lv, mv] H fun u H' => u = .bool true ∧ Keep [] H H' := by
  refine AFn.enter mixed ir_law03_BitsetParts_eq (by simp [ir_law03_BitsetParts]) fun hw => ?_
  simp (disch := omega) [-getElem?_pos, if_pos, if_neg, decide_eq_true, decide_eq_false, ir_law03_BitsetParts]
  refine (made_spec hs1 hl hm).mono' fun u H2 w2 ⟨sa, ta, A, hu, hAl, hA, hTA, k2⟩ => ?_
  subst hu
  obtain ⟨sla, rfl, _, hA4⟩ := id hA
  simp (disch := omega) [-getElem?_pos, if_pos, if_neg, decide_eq_true, decide_eq_false, writeA]
  generalize hH3 : H2.alloc (.row [.int .i64 A.length, sla] T_bitset_Set true) = H3
  have k3 : Keep [] H2 H3 := by rw [← hH3]; exact .alloc
  have w3 : WF H3 := by rw [← hH3]; exact w2.alloc
  have c7 : H3.cells H2.next = some [.int .i64 A.length, sla] := by rw [← hH3]; simp
  have hn3 : H3.next = H2.next + 1 := by rw [← hH3]; simp
  have k03 := k2.trans' k3
  refine (made_spec hs1 (hl2.kept hw k03) hn).mono' fun u H4 w4 ⟨sb, tb, B, hu, hBl, hB, hTB, k4⟩ => ?_
  subst hu
  obtain ⟨slb, rfl, _, hB4⟩ := id hB
  have hne : H2.next < H4.next := by have := k4.next; omega
  have c74 := cells_kept w3 k4 c7
  have hA := (hA.kept w2 k3).kept w3 k4
  simp (disch := omega) [-getElem?_pos, if_pos, if_neg, decide_eq_true, decide_eq_false, writeA]
  generalize hHb : H4.alloc (.row [.int .i64 B.length, slb] T_bitset_Set true) = Hb
  have kb : Keep [] H4 Hb := by rw [← hHb]; exact .alloc
  have wb : WF Hb := by rw [← hHb]; exact w4.alloc
  have c9 : Hb.cells H4.next = some [.int .i64 B.length, slb] := by rw [← hHb]; simp
  have hnb : Hb.next = H4.next + 1 := by rw [← hHb]; simp
  have c7 := cells_kept w4 kb c74
  have hA := ((hA.kept w4 kb).lt wb).mono (q := fun b => b < Hb.next) fun _ h => h.2
  have hB := ((hB.kept w4 kb).lt wb).mono (q := fun b => b < Hb.next) fun _ h => h.2
  have k0 := k03.trans' (k4.trans' kb)
  have hgb := hg.kept hw k0
  generalize H2.next = p7 at *
  generalize H4.next = p9 at *
  simp (disch := omega) [-getElem?_pos, if_pos, if_neg, decide_eq_true, decide_eq_false, c74, c7, c9, cut]
  have w9 : WF ((((Hb.room 15).set (p9 + 1 + 9) (.row [.int .i64 0, .slice none 0 0] T_bitset_Set true)).set (p9 + 1 + 10) (.row [.int .i64 0, .slice none 0 0] T_bitset_Set true)).set (p9 + 1 + 11) (.row [.int .i64 0, .slice none 0 0] T_bitset_Set true)) :=
    (((wb.room).set (by simp; omega)).set (by simp; omega)).set (by simp; omega)
  have k9 : Keep [] Hb ((((Hb.room 15).set (p9 + 1 + 9) (.row [.int .i64 0, .slice none 0 0] T_bitset_Set true)).set (p9 + 1 + 10) (.row [.int .i64 0, .slice none 0 0] T_bitset_Set true)).set (p9 + 1 + 11) (.row [.int .i64 0, .slice none 0 0] T_bitset_Set true)) :=
    .new_set (by omega) (.new_set (by omega) (.new_set (by omega) .room))
  have n9 : ((((Hb.room 15).set (p9 + 1 + 9) (.row [.int .i64 0, .slice none 0 0] T_bitset_Set true)).set (p9 + 1 + 10) (.row [.int .i64 0, .slice none 0 0] T_bitset_Set true)).set (p9 + 1 + 11) (.row [.int .i64 0, .slice none 0 0] T_bitset_Set true)).next = p9 + 16 := by simp; omega
  have a11 : ((((Hb.room 15).set (p9 + 1 + 9) (.row [.int .i64 0, .slice none 0 0] T_bitset_Set true)).set (p9 + 1 + 10) (.row [.int .i64 0, .slice none 0 0] T_bitset_Set true)).set (p9 + 1 + 11) (.row [.int .i64 0, .slice none 0 0] T_bitset_Set true)).blk (p9 + 1 + 9) = some (.row [.int .i64 0, .slice none 0 0] T_bitset_Set true) := by
    rw [AH.set_blk_ne (by omega), AH.set_blk_ne (by omega), AH.set_blk_same]
  have a12 : ((((Hb.room 15).set (p9 + 1 + 9) (.row [.int .i64 0, .slice none 0 0] T_bitset_Set true)).set (p9 + 1 + 10) (.row [.int .i64 0, .slice none 0 0] T_bitset_Set true)).set (p9 + 1 + 11) (.row [.int .i64 0, .slice none 0 0] T_bitset_Set true)).blk (p9 + 1 + 10) = some (.row [.int .i64 0, .slice none 0 0] T_bitset_Set true) := by
    rw [AH.set_blk_ne (by omega), AH.set_blk_same]
  have a13 : ((((Hb.room 15).set (p9 + 1 + 9) (.row [.int .i64 0, .slice none 0 0] T_bitset_Set true)).set (p9 + 1 + 10) (.row [.int .i64 0, .slice none 0 0] T_bitset_Set true)).set (p9 + 1 + 11) (.row [.int .i64 0, .slice none 0 0] T_bitset_Set true)).blk (p9 + 1 + 11) = some (.row [.int .i64 0, .slice none 0 0] T_bitset_Set true) := AH.set_blk_same
  generalize (((Hb.room 15).set (p9 + 1 + 9) (.row [.int .i64 0, .slice none 0 0] T_bitset_Set true)).set (p9 + 1 + 10) (.row [.int .i64 0, .slice none 0 0] T_bitset_Set true)).set (p9 + 1 + 11) (.row [.int .i64 0, .slice none 0 0] T_bitset_Set true) = H9 at *
  have hA9 := hA.kept wb k9
  have hB9 := hB.kept wb k9
  have up : ∀ {H1 Hx : AH} {v : Value} {D : List Bool}, SetB (fun b => b < Hb.next) H1 v D → (∀ b, b ∉ [p9 + 1 + 9, p9 + 1 + 10, p9 + 1 + 11] → Hx.blk b = H1.blk b) → SetB (fun b => b < Hb.next) Hx v D := fun {H1 Hx v D} h hx => h.over fun b hb => by
    unfold AH.cells; rw [hx b (by simp; omega)]
  refine callM_new [p9 + 1 + 9, p9 + 1 + 10, p9 + 1 + 11] [p7, p9] good_bitset_Set_Or rfl (by unfold mind; simp) w9 (by simp; omega) (by simp; omega) (Q := fun u H' => SetB (fun b => H9.next ≤ b ∧ b < H'.next) H' u (eachB (fun a b => a || b) A B))
    (fun Hx hxw hxn hxb => (Or_spec (up hA9 hxb) (up hB9 hxb)).mono' fun u H' w' ⟨r, k⟩ => ⟨hxn ▸ r.lt w', k⟩) fun uo H10 G1 wG1 kG1 nG1 gb1 q1 => ?_
  have r1 : SetB (fun b => H9.next ≤ b ∧ b < G1.next) G1 uo (eachB (fun a b => a || b) A B) := (q1.over fun b hb => by unfold AH.cells; rw [gb1 b hb.1]).mono fun b hb => by omega
  obtain ⟨so, rfl, _, _⟩ := id r1
  simp (disch := omega) [-getElem?_pos, if_pos, if_neg, decide_eq_true, decide_eq_false, ]
  refine callM_new [p9 + 1 + 9, p9 + 1 + 10, p9 + 1 + 11] [p7, p9] good_bitset_Set_And rfl (by unfold mind; simp) wG1 (by have := kG1.next; simp; omega) (by have := kG1.next; simp; omega) (Q := fun u H' => SetB (fun b => G1.next ≤ b ∧ b < H'.next) H' u (eachB (fun a b => a && b) A B))
    (fun Hx hxw hxn hxb => (And_spec (up (hA9.kept w9 kG1) hxb) (up (hB9.kept w9 kG1) hxb)).mono' fun u H' w' ⟨r, k⟩ => ⟨hxn ▸ r.lt w', k⟩) fun ua H11 G2 wG2 kG2 nG2 gb2 q2 => ?_
  have r2 : SetB (fun b => G1.next ≤ b ∧ b < G2.next) G2 ua (eachB (fun a b => a && b) A B) := (q2.over fun b hb => by unfold AH.cells; rw [gb2 b hb.1]).mono fun b hb => by omega
  obtain ⟨sn, rfl, _, _⟩ := id r2
  simp (disch := omega) [-getElem?_pos, if_pos, if_neg, decide_eq_true, decide_eq_false, ]
  have kG12 := kG1.trans' kG2
  refine callM_new [p9 + 1 + 9, p9 + 1 + 10, p9 + 1 + 11] [p7, p9] good_bitset_Set_Less rfl (by unfold mind; simp) wG2 (by have := kG12.next; simp; omega) (by have := kG12.next; simp; omega) (Q := fun u H' => SetB (fun b => G2.next ≤ b ∧ b < H'.next) H' u (eachB (fun a b => a && !b) A B))
    (fun Hx hxw hxn hxb => (Less_spec (up (hA9.kept w9 kG12) hxb) (up (hB9.kept w9 kG12) hxb)).mono' fun u H' w' ⟨r, k⟩ => ⟨hxn ▸ r.lt w', k⟩) fun ul H12 G3 wG3 kG3 nG3 gb3 q3 => ?_
  have r3 : SetB (fun b => G2.next ≤ b ∧ b < G3.next) G3 ul (eachB (fun a b => a && !b) A B) := (q3.over fun b hb => by unfold AH.cells; rw [gb3 b hb.1]).mono fun b hb => by omega
  obtain ⟨sl, rfl, _, _⟩ := id r3
  have kG13 := kG12.trans' kG3
  have hn1 := kG1.next
  have hn2 := kG2.next
  have hn3 := kG3.next
  have b11 := (kG13.blk (p9 + 1 + 9) (by omega) (by simp)).trans a11
  have b12 := (kG13.blk (p9 + 1 + 10) (by omega) (by simp)).trans a12
  have b13 := (kG13.blk (p9 + 1 + 11) (by omega) (by simp)).trans a13
  simp (disch := omega) [-getElem?_pos, if_pos, if_neg, decide_eq_true, decide_eq_false, writeA, b11, b12, b13, over]
  have hlen : A.length = B.length := by omega
  have e1 := parts_count hlen
  have e2 := parts_again (A := A) (B := B)
  have e3 := parts_none (A := A) (B := B)
  have e4 := parts_in (A := A) (B := B)
  have e5 := parts_of (A := A) (B := B)
  have e6 := parts_turn hlen
  have kc : Keep [] Hb (((G3.set (p9 + 1 + 9) (.row [.int .i64 (eachB (fun a b => a || b) A B).length, so] T_bitset_Set true)).set (p9 + 1 + 10) (.row [.int .i64 (eachB (fun a b => a && b) A B).length, sn] T_bitset_Set true)).set (p9 + 1 + 11) (.row [.int .i64 (eachB (fun a b => a && !b) A B).length, sl] T_bitset_Set true)) :=
    .new_set (by omega) (.new_set (by omega) (.new_set (by omega) (k9.trans' kG13)))
  have wc : WF (((G3.set (p9 + 1 + 9) (.row [.int .i64 (eachB (fun a b => a || b) A B).length, so] T_bitset_Set true)).set (p9 + 1 + 10) (.row [.int .i64 (eachB (fun a b => a && b) A B).length, sn] T_bitset_Set true)).set (p9 + 1 + 11) (.row [.int .i64 (eachB (fun a b => a && !b) A B).length, sl] T_bitset_Set true)) :=
    ((wG3.set (by omega)).set (by simp; omega)).set (by simp; omega)
  have g11 : (((G3.set (p9 + 1 + 9) (.row [.int .i64 (eachB (fun a b => a || b) A B).length, so] T_bitset_Set true)).set (p9 + 1 + 10) (.row [.int .i64 (eachB (fun a b => a && b) A B).length, sn] T_bitset_Set true)).set (p9 + 1 + 11) (.row [.int .i64 (eachB (fun a b => a && !b) A B).length, sl] T_bitset_Set true)).cells (p9 + 1 + 9) = some [.int .i64 (eachB (fun a b => a || b) A B).length, so] := by
    rw [AH.cells_set_ne (by omega), AH.cells_set_ne (by omega), AH.cells_set_same]
  have g12 : (((G3.set (p9 + 1 + 9) (.row [.int .i64 (eachB (fun a b => a || b) A B).length, so] T_bitset_Set true)).set (p9 + 1 + 10) (.row [.int .i64 (eachB (fun a b => a && b) A B).length, sn] T_bitset_Set true)).set (p9 + 1 + 11) (.row [.int .i64 (eachB (fun a b => a && !b) A B).length, sl] T_bitset_Set true)).cells (p9 + 1 + 10) = some [.int .i64 (eachB (fun a b => a && b) A B).length, sn] := by
    rw [AH.cells_set_ne (by omega), AH.cells_set_same]
  have g13 : (((G3.set (p9 + 1 + 9) (.row [.int .i64 (eachB (fun a b => a || b) A B).length, so] T_bitset_Set true)).set (p9 + 1 + 10) (.row [.int .i64 (eachB (fun a b => a && b) A B).length, sn] T_bitset_Set true)).set (p9 + 1 + 11) (.row [.int .i64 (eachB (fun a b => a && !b) A B).length, sl] T_bitset_Set true)).cells (p9 + 1 + 11) = some [.int .i64 (eachB (fun a b => a && !b) A B).length, sl] := AH.cells_set_same
  have sO : SetB (fun _ => True) (((G3.set (p9 + 1 + 9) (.row [.int .i64 (eachB (fun a b => a || b) A B).length, so] T_bitset_Set true)).set (p9 + 1 + 10) (.row [.int .i64 (eachB (fun a b => a && b) A B).length, sn] T_bitset_Set true)).set (p9 + 1 + 11) (.row [.int .i64 (eachB (fun a b => a && !b) A B).length, sl] T_bitset_Set true)) (.agg #[.int .i64 (eachB (fun a b => a || b) A B).length, so]) (eachB (fun a b => a || b) A B) :=
    (((r1.kept wG1 kG2).kept wG2 kG3).over fun b hb => by rw [AH.cells_set_ne (by omega), AH.cells_set_ne (by omega), AH.cells_set_ne (by omega)]).mono fun _ _ => trivial
  have sN : SetB (fun _ => True) (((G3.set (p9 + 1 + 9) (.row [.int .i64 (eachB (fun a b => a || b) A B).length, so] T_bitset_Set true)).set (p9 + 1 + 10) (.row [.int .i64 (eachB (fun a b => a && b) A B).length, sn] T_bitset_Set true)).set (p9 + 1 + 11) (.row [.int .i64 (eachB (fun a b => a && !b) A B).length, sl] T_bitset_Set true)) (.agg #[.int .i64 (eachB (fun a b => a && b) A B).length, sn]) (eachB (fun a b => a && b) A B) :=
    ((r2.kept wG2 kG3).over fun b hb => by rw [AH.cells_set_ne (by omega), AH.cells_set_ne (by omega), AH.cells_set_ne (by omega)]).mono fun _ _ => trivial
  have sL : SetB (fun _ => True) (((G3.set (p9 + 1 + 9) (.row [.int .i64 (eachB (fun a b => a || b) A B).length, so] T_bitset_Set true)).set (p9 + 1 + 10) (.row [.int .i64 (eachB (fun a b => a && b) A B).length, sn] T_bitset_Set true)).set (p9 + 1 + 11) (.row [.int .i64 (eachB (fun a b => a && !b) A B).length, sl] T_bitset_Set true)) (.agg #[.int .i64 (eachB (fun a b => a && !b) A B).length, sl]) (eachB (fun a b => a && !b) A B) :=
    (r3.over fun b hb => by rw [AH.cells_set_ne (by omega), AH.cells_set_ne (by omega), AH.cells_set_ne (by omega)]).mono fun _ _ => trivial
  have sA := (hA.kept wb kc).mono (q := fun _ => True) fun _ _ => trivial
  have sB := (hB.kept wb kc).mono (q := fun _ => True) fun _ _ => trivial
  have d7 := cells_kept wb kc c7
  have d9 := cells_kept wb kc c9
  have hgc := hgb.kept wb kc
  clear w9 k9 n9 a11 a12 a13 hA9 hB9 up kG13 kG12
  generalize hHc : AH.set (AH.set (AH.set G3 _ _) _ _) _ _ = Hc at *
  clear hHc
  refine AFnD.of (wakes_spec hgc) ?_
  have kk := k0.trans' kc
  have u1 := count_le A
  have u2 := count_le B
  have u3 := count_le (eachB (fun a b => a || b) A B)
  have u4 := count_le (eachB (fun a b => a && b) A B)
  have l3 := eachB_length (fun a b => a || b) A B
  have l4 := eachB_length (fun a b => a && b) A B
  simp (disch := omega) [-getElem?_pos, if_pos, if_neg, decide_eq_true, decide_eq_false, d7, d9, g11, g12, g13, cut]
  refine AFnD.of (Count_spec sO) ?_
  simp (disch := omega) [-getElem?_pos, if_pos, if_neg, decide_eq_true, decide_eq_false, d7, d9, g11, g12, g13, cut]
  refine AFnD.of (Count_spec sN) ?_
  simp (disch := omega) [-getElem?_pos, if_pos, if_neg, decide_eq_true, decide_eq_false, d7, d9, g11, g12, g13, cut]
  refine AFnD.of (Count_spec sA) ?_
  simp (disch := omega) [-getElem?_pos, if_pos, if_neg, decide_eq_true, decide_eq_false, d7, d9, g11, g12, g13, cut]
  refine AFnD.of (Count_spec sB) ?_
  have e1' : (((eachB (fun a b => a || b) A B).count true : Nat) : Int) + ((eachB (fun a b => a && b) A B).count true : Nat) = (A.count true : Nat) + (B.count true : Nat) := by omega
  simp (disch := omega) [-getElem?_pos, if_pos, if_neg, decide_eq_true, decide_eq_false, d7, d9, g11, g12, g13, cut, e1']
  refine AFnD.from (Or_spec sL sN) fun u5 H5 w5 ⟨r5, k5⟩ => ⟨k5.grow wc, ?_⟩
  rw [e2] at r5
  simp (disch := omega) [-getElem?_pos, if_pos, if_neg, decide_eq_true, decide_eq_false, cells_kept wc k5 d7, cells_kept wc k5 d9, cells_kept wc k5 g11, cells_kept wc k5 g12, cells_kept wc k5 g13, cut]
  refine AFnD.of (Equal_spec (r5.mono fun _ _ => trivial) (sA.kept wc k5)) ?_
  simp (disch := omega) [-getElem?_pos, if_pos, if_neg, decide_eq_true, decide_eq_false, cells_kept wc k5 d7, cells_kept wc k5 d9, cells_kept wc k5 g11, cells_kept wc k5 g12, cells_kept wc k5 g13, cut]
  refine AFnD.from (And_spec (sL.kept wc k5) (sB.kept wc k5)) fun u6 H6 w6 ⟨r6, k6⟩ => ⟨k6.grow w5, ?_⟩
  have kc6 := k5.trans' k6
  simp (disch := omega) [-getElem?_pos, if_pos, if_neg, decide_eq_true, decide_eq_false, ]
  refine AFnD.of (Count_spec r6) ?_
  rw [e3]
  simp (disch := omega) [-getElem?_pos, if_pos, if_neg, decide_eq_true, decide_eq_false, cells_kept wc kc6 d7, cells_kept wc kc6 d9, cells_kept wc kc6 g11, cells_kept wc kc6 g12, cells_kept wc kc6 g13, cut]
  refine AFnD.of (Within_spec (sN.kept wc kc6) (sB.kept wc kc6)) ?_
  rw [e4]
  simp (disch := omega) [-getElem?_pos, if_pos, if_neg, decide_eq_true, decide_eq_false, cells_kept wc kc6 d7, cells_kept wc kc6 d9, cells_kept wc kc6 g11, cells_kept wc kc6 g12, cells_kept wc kc6 g13, cut]
  refine AFnD.of (Within_spec (sA.kept wc kc6) (sO.kept wc kc6)) ?_
  rw [e5]
  simp (disch := omega) [-getElem?_pos, if_pos, if_neg, decide_eq_true, decide_eq_false, cells_kept wc kc6 d7, cells_kept wc kc6 d9, cells_kept wc kc6 g11, cells_kept wc kc6 g12, cells_kept wc kc6 g13, cut]
  refine AFnD.from (Or_spec (sB.kept wc kc6) (sA.kept wc kc6)) fun u7 H7 w7 ⟨r7, k7⟩ => ⟨k7.grow w6, ?_⟩
  have kc7 := kc6.trans' k7
  rw [← e6] at r7
  simp (disch := omega) [-getElem?_pos, if_pos, if_neg, decide_eq_true, decide_eq_false, ]
  refine AFnD.of (Equal_spec (sO.kept wc kc7) (r7.mono fun _ _ => trivial)) ?_
  simp (disch := omega) [-getElem?_pos, if_pos, if_neg, decide_eq_true, decide_eq_false, ]
  exact kk.trans' kc7
end Go.Proofs.YtakdkbdjjlmccaaDoor
