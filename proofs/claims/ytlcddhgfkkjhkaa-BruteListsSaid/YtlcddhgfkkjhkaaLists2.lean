/-
  BruteLists: the walk.
-/
import Derived.Test.YtlcddhgfkkjhkaaLists
set_option maxRecDepth 100000
set_option linter.unusedSimpArgs false
set_option linter.unusedVariables false
namespace Go.Proofs.Ytlcddhgfkkjhkaa
open Go Go.Abs

theorem BruteLists_abs {H : AH} {v : Value} {x : InstD} (hx : InstV (fun b => b < H.next) H v x) : AFn Try.prog F_law13_BruteLists [v] H fun u H' => u = .bool true ∧ H' = H := by
  refine AFn.calm (fun H0 hs => ?_) rfl
  have hn0 : H0.next = H.next := hs.1
  have hx0 := (hx.same hs).up (q := fun b => b < H0.next) (fun b hb => by omega) .refl
  obtain ⟨iv, cv, sv, rfl, i1, i2, i3, h1, h2, h3⟩ := id hx0
  refine AFn.enter mixed ir_law13_BruteLists_eq (by simp [ir_law13_BruteLists]) fun hw => ?_
  simp (disch := omega) [-getElem?_pos, if_pos, if_neg, decide_eq_true, decide_eq_false, ir_law13_BruteLists, inst_cut]
  generalize hH1 : AH.alloc (AH.alloc H0 _) _ = H1
  have k1 : Keep [] H0 H1 := by rw [← hH1]; exact .new_alloc .alloc
  have w1 : WF H1 := by rw [← hH1]; exact hw.alloc.alloc
  have n1 : H1.next = H0.next + 2 := by rw [← hH1]; simp
  have c1 : H1.cells H0.next = some (instC x iv cv sv) := by rw [← hH1]; simp
  have b2 : H1.blk (H0.next + 1) = some (.row [.bool false] T_bool true) := by rw [← hH1]; simp
  clear hH1
  have hx1 := (hx0.kept hw k1).up (q := fun b => b < H1.next) (fun b hb => by omega) .refl
  generalize hq1 : H0.next = q1 at *
  refine (insts_spec hx1).mono' fun u H2 w2 ⟨a, b, hu, ha, hb, k2⟩ => ?_
  subst hu
  have n2 := k2.next
  obtain ⟨ia, ca, sa, rfl, _⟩ := id ha
  obtain ⟨ib, cb, sb, rfl, _⟩ := id hb
  have c12 := cells_kept w1 k2 c1
  simp (disch := omega) [-getElem?_pos, if_pos, if_neg, decide_eq_true, decide_eq_false, writeA, over, inst_cut, c12]
  generalize hH3 : AH.set (AH.set _ _ _) _ _ = H3
  have k3 : Keep [] H2 H3 := by rw [← hH3]; exact .new_set (by omega) (.new_set (by omega) (.new_alloc .alloc))
  have w3 : WF H3 := by rw [← hH3]; refine WF.set (WF.set (WF.alloc (WF.alloc w2)) ?_) ?_ <;> simp <;> omega
  have n3 : H3.next = H2.next + 2 := by rw [← hH3]; simp
  have c3 : H3.cells H2.next = some (instC (clipI x) ia ca sa) := by rw [← hH3]; simp
  clear hH3
  have hx3 := (hx1.kept w1 (k2.trans' k3)).up (q := fun b => b < H3.next) (fun b hb => by omega) .refl
  have ha3 := ha.kept w2 k3
  have c13 := cells_kept w2 k3 c12
  refine (insts_spec hx3).mono' fun u H4 w4 ⟨a', b', hu, ha', hb', k4⟩ => ?_
  subst hu
  have n4 := k4.next
  obtain ⟨ja, cja, sja, rfl, _⟩ := id ha'
  obtain ⟨jb, cjb, sjb, rfl, _⟩ := id hb'
  have c34 := cells_kept w3 k4 c3
  have c14 := cells_kept w3 k4 c13
  simp (disch := omega) [-getElem?_pos, if_pos, if_neg, decide_eq_true, decide_eq_false, writeA, over, inst_cut, c34]
  generalize hH5 : AH.set (AH.set _ _ _) _ _ = H5
  have k5 : Keep [] H4 H5 := by rw [← hH5]; exact .new_set (by omega) (.new_set (by omega) (.new_alloc .alloc))
  have w5 : WF H5 := by rw [← hH5]; refine WF.set (WF.set (WF.alloc (WF.alloc w4)) ?_) ?_ <;> simp <;> omega
  have n5 : H5.next = H4.next + 2 := by rw [← hH5]; simp
  have c5 : H5.cells (H4.next + 1) = some (instC (clipI x) jb cjb sjb) := by rw [← hH5]; simp
  clear hH5
  have ha5 := ha3.kept w3 (k4.trans' k5)
  have hb5 := hb'.kept w4 k5
  have c35 := cells_kept w4 k5 c34
  have c15 := cells_kept w4 k5 c14
  have hx5 := (hx3.kept w3 (k4.trans' k5)).up (q := fun b => b < H5.next) (fun b hb => by omega) .refl
  refine AFn.pure (Count_spec ha5) ?_
  simp (disch := omega) [-getElem?_pos, if_pos, if_neg, decide_eq_true, decide_eq_false, c5, inst_cut]
  refine AFn.pure (Count13_spec hb5) ?_
  simp (disch := omega) [-getElem?_pos, if_pos, if_neg, decide_eq_true, decide_eq_false, ]
  refine AFn.pure wakes13_spec ?_
  simp (disch := omega) [-getElem?_pos, if_pos, if_neg, decide_eq_true, decide_eq_false, c15, inst_cut]
  refine (show AFn _ _ [_, .int .i64 ((7 : Nat) : Int)] _ _ from (tame_spec (m := 7) (by omega) (by omega) hx5)).mono' fun u H6 w6 ⟨y, hy, ht, k6⟩ => ?_
  have n6 := k6.next
  obtain ⟨hE, C, hC, hC1, hC2⟩ := tame_count (by omega) ht
  have hy6 : InstV (fun b => b < H6.next) H6 u y := hy.up (fun b hb => hb.2) .refl
  simp (disch := omega) [-getElem?_pos, if_pos, if_neg, decide_eq_true, decide_eq_false, ]
  refine (insts_spec hy6).mono' fun u7 H7 w7 ⟨c, d, hu, hc, hd, k7⟩ => ?_
  rw [clip_tame (by omega) ht] at hc hd
  subst hu
  have n7 := k7.next
  obtain ⟨ka, cka, ska, rfl, _⟩ := id hc
  obtain ⟨kb, ckb, skb, rfl, _⟩ := id hd
  simp (disch := omega) [-getElem?_pos, if_pos, if_neg, decide_eq_true, decide_eq_false, writeA, over, inst_cut]
  generalize hH8 : AH.set (AH.set _ _ _) _ _ = H8
  have k8 : Keep [] H7 H8 := by rw [← hH8]; exact .new_set (by omega) (.new_set (by omega) (.new_alloc .alloc))
  have w8 : WF H8 := by rw [← hH8]; refine WF.set (WF.set (WF.alloc (WF.alloc w7)) ?_) ?_ <;> simp <;> omega
  have n8 : H8.next = H7.next + 2 := by rw [← hH8]; simp
  have c8 : H8.cells H7.next = some (instC y ka cka ska) := by rw [← hH8]; simp
  clear hH8
  have hc8 : InstV (fun b => b < H8.next) H8 (.agg (instC y ka cka ska).toArray) y := hc.up (fun b hb => by have := hb.2; omega) (.kept w7 k8)
  have hd8 : InstV (fun b => b < H8.next) H8 (.agg (instC y kb ckb skb).toArray) y := hd.up (fun b hb => by have := hb.2; omega) (.kept w7 k8)
  have k18 : Keep [] H1 H8 := ((((((k2.trans' k3).trans' k4).trans' k5).trans' k6).trans' k7).trans' k8)
  have b28 : H8.blk (q1 + 1) = some (.row [.bool false] T_bool true) := by rw [k18.blk _ (by omega) (by simp)]; exact b2
  have n18 := k18.next
  refine (All13_spec hd8 hE hC).mono' fun l H9 w9 ⟨S, hL, k9, hS⟩ => ?_
  have n9 := k9.next
  obtain ⟨la, lc, rfl⟩ := hL.slice
  have hll : ((List.range C).map y.at).length = C := by simp
  have hL9 : SlV (fun b => b < H9.next) H9 (.slice la ((List.range C).map y.at).length lc) ((List.range C).map y.at) := hL.slv (fun b h => h.2.1) (fun b hb => hL.lt w9 b hb) (by omega)
  have c89 := cells_kept w8 k9 c8
  simp (disch := omega) [-getElem?_pos, if_pos, if_neg, decide_eq_true, decide_eq_false, writeA, over, c89, inst_cut]
  generalize hH10 : AH.alloc H9 _ = H10
  have k10 : Keep [] H9 H10 := by rw [← hH10]; exact .alloc
  have w10 : WF H10 := by rw [← hH10]; exact w9.alloc
  have n10 : H10.next = H9.next + 1 := by rw [← hH10]; simp
  have c10 : H10.cells H9.next = some [.slice la ((List.range C).map y.at).length lc] := by rw [← hH10]; simp
  clear hH10
  have k810 := k9.trans' k10
  refine (All_spec (hc8.kept w8 k810)).mono' fun u H11 w11 ⟨iv', cv', sv', e11, hu, hH11⟩ => ?_
  subst hu
  have k11 : Keep [] H10 H11 := by rw [hH11]; exact .alloc
  have n11 : H11.next = H10.next + 1 := by rw [hH11]; simp
  clear hH11 e11
  have c811 := cells_kept w10 k11 (cells_kept w9 k10 c89)
  simp (disch := omega) [-getElem?_pos, if_pos, if_neg, decide_eq_true, decide_eq_false, writeA, over, c811, inst_cut]
  generalize hH12 : AH.alloc H11 _ = H12
  have k12 : Keep [] H11 H12 := by rw [← hH12]; exact .alloc
  have w12 : WF H12 := by rw [← hH12]; exact w11.alloc
  have n12 : H12.next = H11.next + 1 := by rw [← hH12]; simp
  have b12 : H12.blk H11.next = some (.row [.int .i64 0] T_int true) := by rw [← hH12]; simp
  clear hH12
  have k812 := (k810.trans' k11).trans' k12
  refine (All_spec (hc8.kept w8 k812)).mono' fun u H13 w13 ⟨iv', cv', sv', e13, hu, hH13⟩ => ?_
  subst hu
  have k13 : Keep [] H12 H13 := by rw [hH13]; exact .alloc
  have n13 : H13.next = H12.next + 1 := by rw [hH13]; simp
  have c13' : H13.cells H12.next = some (instC y iv' cv' sv') := by rw [hH13]; simp
  clear hH13
  have k813 := k812.trans' k13
  have hx13 : InstV (fun b => b < H13.next) H13 (.agg (instC y iv' cv' sv').toArray) y := by rw [← e13]; exact (hc8.kept w8 k813).up (fun b hb => by have := k813.next; omega) .refl
  have b13 : H13.blk H11.next = some (.row [.int .i64 0] T_int true) := by rw [k13.blk _ (by omega) (by simp)]; exact b12
  have k913 : Keep [] H9 H13 := ((k10.trans' k11).trans' k12).trans' k13
  have cl13 : H13.cells H9.next = some [.slice la ((List.range C).map y.at).length lc] := cells_kept w12 k13 (cells_kept w11 k12 (cells_kept w10 k11 c10))
  have hL13 : SlV (fun b => b < H9.next) H13 (.slice la ((List.range C).map y.at).length lc) ((List.range C).map y.at) := hL9.kept w9 k913
  have b213 : H13.blk (q1 + 1) = some (.row [.bool false] T_bool true) := by rw [k813.blk _ (by omega) (by simp)]; exact b28
  simp (disch := omega) [-getElem?_pos, if_pos, if_neg, decide_eq_true, decide_eq_false, ]
  refine wpC_range (p := #[]) (q := #[.pointer (some ⟨H12.next, 0, none⟩)]) (by simp) good_brute_All_1 ?_
  generalize hLd : (LoopA.mk _ _ _ _ _ _ _ : LoopA) = L0
  have hF : LoopF L0 81 61 15 listsBody := by rw [← hLd]; exact ⟨rfl, rfl, rfl, rfl, rfl, rfl⟩
  have f13 : L0.env 13 = some (.pointer (some ⟨H9.next, 0, none⟩)) := by rw [← hLd]; simp
  have f14 : L0.env 14 = some (.pointer (some ⟨H11.next, 0, none⟩)) := by rw [← hLd]; simp
  clear hLd
  have k14 : Keep [] H13 (H13.alloc (.loop L0)) := .alloc
  have w14 : WF (H13.alloc (.loop L0)) := w13.alloc
  have n14 : (H13.alloc (.loop L0)).next = H13.next + 1 := by simp
  have bl14 : (H13.alloc (.loop L0)).blk H13.next = some (.loop L0) := AH.alloc_blk_new
  generalize H13.alloc (.loop L0) = H14 at *
  have br14 : H14.blk H11.next = some (.row [.int .i64 0] T_int true) := by rw [k14.blk _ (by omega) (by simp)]; exact b13
  have cl14 := cells_kept w13 k14 cl13
  refine (All1_spec (l := H13.next) (n0 := H14.next) (C := C) (Inv := fun _ => LsI H14 H14.next H11.next) (Fin := fun _ _ => False) (hx13.kept w13 k14) (cells_kept w13 k14 c13') hE hC (Nat.le_refl _) (fun O hO => ?_) (fun O hO b hb => ?_)).mono' fun u H15 w15 ⟨O, hO, hr⟩ => ?_
  · exact lists_yld (q13 := H9.next) (lv := .slice la ((List.range C).map y.at).length lc) w14 hF bl14 rfl (by omega) br14 (by omega) (by omega) cl14 ((hL13.kept w13 k14).mono fun b hb => ⟨by omega, by omega, by omega⟩) hC2 f13 f14 hO
  · by_cases h : b = H11.next
    · subst h; rw [AH.set_blk_same]; exact br14
    · rw [AH.set_blk_ne h]
  · rcases hr with hI | hF'
    · have bl15 : H15.blk H13.next = some (.loop L0) := by rw [hI _ (by omega), AH.set_blk_ne (by omega)]; exact bl14
      have br15 : H15.blk H11.next = some (.row [.int .i64 C] T_int true) := by rw [hI _ (by omega), AH.set_blk_same]
      have cl15 : H15.cells H9.next = some [.slice la ((List.range C).map y.at).length lc] := by
        have : H15.blk H9.next = H14.blk H9.next := by rw [hI _ (by omega), AH.set_blk_ne (by omega)]
        unfold AH.cells at cl14 ⊢; rw [this]; exact cl14
      have b215 : H15.blk (q1 + 1) = some (.row [.bool false] T_bool true) := by rw [hI _ (by omega), AH.set_blk_ne (by omega), k14.blk _ (by omega) (by simp)]; exact b213
      refine rangeK_end hF bl15 fun B => ?_
      have cr := AH.cells_of br15
      have cr' : (H15.set H13.next B).cells H11.next = some [.int .i64 C] := by rw [AH.cells_set_ne (by omega)]; exact cr
      have cl' : (H15.set H13.next B).cells H9.next = some [.slice la ((List.range C).map y.at).length lc] := by rw [AH.cells_set_ne (by omega)]; exact cl15
      have wr := writeA_of (H := H15.set H13.next B) (b := q1 + 1) (off := 0) (news := [Value.bool true]) (by rw [AH.set_blk_ne (by omega)]; exact b215) (by simp)
      generalize H15.set H13.next B = H16 at *
      simp (disch := omega) [-getElem?_pos, if_pos, if_neg, decide_eq_true, decide_eq_false, cr', cl', hll, wr, over]
    · exact hF'.elim
end Go.Proofs.Ytlcddhgfkkjhkaa
