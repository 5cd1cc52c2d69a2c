/-
  BruteLeast: the walk, whole.
-/
import Derived.Test.YtlcddhgfkkjhkaaLeast
set_option maxRecDepth 100000
set_option linter.unusedSimpArgs false
set_option linter.unusedVariables false
namespace Go.Proofs.Ytlcddhgfkkjhkaa
open Go Go.Abs
theorem BruteLeast_abs {H : AH} {v w : Value} {x : InstD} {Y : List Int} (hx : InstV (fun b => b < H.next) H v x) (hY : SlV (fun b => b < H.next) H w Y) : AFn Try.prog F_law13_BruteLeast [v, w] H fun u H' => u = .bool true ∧ H' = H := by
  refine AFn.calm (fun H0 hs => ?_) rfl
  have hn0 : H0.next = H.next := hs.1
  have hx0 := (hx.same hs).up (q := fun b => b < H0.next) (fun b hb => by omega) .refl
  have hY0 := (hY.same hs).mono (q := fun b => b < H0.next) (fun b hb => by omega)
  obtain ⟨iv, cv, sv, rfl, i1, i2, i3, h1, h2, h3⟩ := id hx0
  refine AFn.enter mixed ir_law13_BruteLeast_eq (by simp [ir_law13_BruteLeast]) fun hw => ?_
  obtain ⟨ya, yc, rfl⟩ := hY.slice
  simp (disch := omega) [-getElem?_pos, if_pos, if_neg, decide_eq_true, decide_eq_false, ir_law13_BruteLeast, inst_cut]
  generalize hH1 : AH.alloc (AH.alloc H0 _) _ = H1
  have k1 : Keep [] H0 H1 := by rw [← hH1]; exact .new_alloc .alloc
  have w1 : WF H1 := by rw [← hH1]; exact hw.alloc.alloc
  have n1 : H1.next = H0.next + 2 := by rw [← hH1]; simp
  have b4 : H1.blk (H0.next + 1) = some (.row [.bool false] T_bool true) := by rw [← hH1]; exact AH.alloc_blk_new
  clear hH1
  have hx1 := (hx0.kept hw k1).up (q := fun b => b < H1.next) (fun b hb => by omega) .refl
  have hY1 := (hY0.kept hw k1).mono (q := fun b => b < H1.next) (fun b hb => by omega)
  generalize hq0 : H0.next = q0 at *
  refine (show AFn _ _ [_, .int .i64 ((7 : Nat) : Int)] _ _ from (tame_spec (m := 7) (by omega) (by omega) hx1)).mono' fun u H2 w2 ⟨y, hy, ht, k2⟩ => ?_
  have n2 := k2.next
  obtain ⟨hE, C, hC, hC1, hC2⟩ := tame_count (by omega) ht
  have hy2 : InstV (fun b => b < H2.next) H2 u y := hy.up (fun b hb => hb.2) .refl
  simp (disch := omega) [-getElem?_pos, if_pos, if_neg, decide_eq_true, decide_eq_false, ]
  refine (insts_spec hy2).mono' fun u3 H3 w3 ⟨a, b, hu, ha, hb, k3⟩ => ?_
  rw [clip_tame (by omega) ht] at ha hb
  subst hu
  have n3 := k3.next
  obtain ⟨ia, ca, sa, rfl, _⟩ := id ha
  obtain ⟨ib, cb, sb, rfl, _⟩ := id hb
  simp (disch := omega) [-getElem?_pos, if_pos, if_neg, decide_eq_true, decide_eq_false, writeA, over, inst_cut]
  generalize hH4 : AH.set (AH.set _ _ _) _ _ = H4
  have k4 : Keep [] H3 H4 := by rw [← hH4]; exact .new_set (by omega) (.new_set (by omega) (.new_alloc .alloc))
  have w4 : WF H4 := by rw [← hH4]; refine WF.set (WF.set (WF.alloc (WF.alloc w3)) ?_) ?_ <;> simp <;> omega
  have c5 : H4.cells H3.next = some (instC y ia ca sa) := by rw [← hH4]; simp
  have n4 : H4.next = H3.next + 2 := by rw [← hH4]; simp
  clear hH4
  have hx4 : InstV (fun b => b < H4.next) H4 (.agg (instC y ia ca sa).toArray) y := ha.up (fun b hb => by have := hb.2; omega) (.kept w3 k4)
  have k14 := ((k2.trans' k3).trans' k4)
  have hY4 := hY1.kept w1 k14
  have b44 := (k14.blk (q0 + 1) (by omega) (by simp)).trans b4
  refine (Best_spec hx4 hE hC).mono' fun u H5 w5 ⟨wa, hu, hA, k5⟩ => ?_
  subst hu
  have n5 := k5.next
  have hb0 : y.best = bestK y C := by unfold InstD.best; rw [hC]; rfl
  rw [hb0] at hA ⊢
  have hcA := hA.cell
  have c55 := cells_kept w4 k5 c5
  simp (disch := omega) [-getElem?_pos, if_pos, if_neg, decide_eq_true, decide_eq_false, writeA, over, hcA]
  generalize hH6 : AH.set (AH.set _ _ _) _ _ = H6
  have k6 : Keep [] H5 H6 := by rw [← hH6]; exact .new_set (by omega) (.new_set (by omega) (.new_alloc .alloc))
  have w6 : WF H6 := by rw [← hH6]; refine WF.set (WF.set (WF.alloc (WF.alloc w5)) ?_) ?_ <;> simp <;> omega
  have n6 : H6.next = H5.next + 2 := by rw [← hH6]; simp
  have c8 : H6.cells H5.next = some [.int .i64 (bC (bestK y C))] := by rw [← hH6]; simp
  have c9 : H6.cells (H5.next + 1) = some [.bool (bestK y C).isSome] := by rw [← hH6]; simp
  clear hH6
  have c56 := cells_kept w5 k6 c55
  have hx6 := (hx4.kept w4 (k5.trans' k6))
  have hA6 := (hA.kept w5 k6)
  have hY6 := hY4.kept w4 (k5.trans' k6)
  have b46 := ((k5.trans' k6).blk (q0 + 1) (by omega) (by simp)).trans b44
  refine AFn.pure wakes13_spec ?_
  simp (disch := omega) [-getElem?_pos, if_pos, if_neg, decide_eq_true, decide_eq_false, c56, inst_cut]
  refine (All_spec hx6).mono' fun u H7 w7 ⟨iv', cv', sv', e7, hu, hH7⟩ => ?_
  subst hu
  have k7 : Keep [] H6 H7 := by rw [hH7]; exact .alloc
  have n7 : H7.next = H6.next + 1 := by rw [hH7]; simp
  clear hH7 e7 iv' cv' sv'
  have c57 := cells_kept w6 k7 c56
  have hx7 := hx6.kept w6 k7
  have hA7 := hA6.kept w6 k7
  have hY7 := hY6.kept w6 k7
  have c87 := cells_kept w6 k7 c8
  have c97 := cells_kept w6 k7 c9
  have b47 := (k7.blk (q0 + 1) (by omega) (by simp)).trans b46
  have hcost := Cost_spec hx7.any hA7.any
  simp (disch := omega) [-getElem?_pos, if_pos, if_neg, decide_eq_true, decide_eq_false, c57, inst_cut]
  refine AFn.pure hcost ?_
  have hbest : (bestK y C).isSome = true → y.valueE (bL (bestK y C)) = 0 ∧ y.costOf (bL (bestK y C)) = bC (bestK y C) := fun h => by
    obtain ⟨⟨X, c⟩, hXc⟩ := Option.isSome_iff_exists.1 h
    rw [hXc]
    exact best_is hXc
  have hall : ∀ Z, y.valueE Z = 0 → (bestK y C).isSome = true ∧ bC (bestK y C) ≤ y.costOf Z := fun Z h => best_all hE hC h
  have hsome : ¬ y.kind = 3 → (bestK y C).isSome = true := fun h => best_some hE hC hC1 h
  have m20 : (if (20 : Int) < (Y.length : Int) then (20 : Int) else (Y.length : Int)) = ((min Y.length 20 : Nat) : Int) := by split <;> omega
  obtain ⟨yw, hsl, hz⟩ := hY7.sl (m := min Y.length 20) (by omega)
  rw [take_min] at hz
  simp only [sz_int] at hsl
  have hzc := hz.cell
  have hcost2 := Cost_spec hx7.any hz.any
  have hallY := hall (Y.take 20)
  have h3 : ((bestK y C).isSome = true ∧ y.valueE (Y.take 20) = 0) ∨ ((bestK y C).isSome = true ∧ ¬ y.valueE (Y.take 20) = 0) ∨ ((bestK y C).isSome = false ∧ ¬ y.valueE (Y.take 20) = 0) := by
    cases hS : (bestK y C).isSome with
    | true => by_cases hV : y.valueE (Y.take 20) = 0 <;> simp [hV]
    | false =>
      right; right
      refine ⟨rfl, fun hV => ?_⟩
      have := (hallY hV).1
      rw [hS] at this; cases this
  have hle : y.valueE (Y.take 20) = 0 → ¬ y.costOf (Y.take 20) < bC (bestK y C) := fun h => by have := (hallY h).2; omega
  have c57' := c57
  generalize hZ : Y.take 20 = Z at *
  rcases h3 with ⟨hS, hV⟩ | ⟨hS, hV⟩ | ⟨hS, hV⟩
  case' inl =>
    obtain ⟨hv, hc⟩ := hbest hS
    rw [hv, hc]
    have hle' := hle hV
    have d97 := c97
    rw [hS] at d97
    generalize hbc : bC (bestK y C) = bc at *
    generalize hcc : y.costOf Z = cc at *
    simp (disch := omega) [-getElem?_pos, if_pos, if_neg, decide_eq_true, decide_eq_false, d97, c87, c57, inst_cut, ↓ieval_slhi, m20, hsl, hzc.1, hzc.2]
    refine AFnD.of hcost2 ?_
    simp (disch := omega) [-getElem?_pos, if_pos, if_neg, decide_eq_true, decide_eq_false, hV, d97, c87, hle', c57, inst_cut, writeA, over]
  case' inr.inl =>
    obtain ⟨hv, hc⟩ := hbest hS
    rw [hv, hc]
    have d97 := c97
    rw [hS] at d97
    have hVF := eq_false hV
    generalize hbc : bC (bestK y C) = bc at *
    generalize hcc : y.costOf Z = cc at *
    simp (disch := omega) [-getElem?_pos, if_pos, if_neg, decide_eq_true, decide_eq_false, d97, c87, c57, inst_cut, ↓ieval_slhi, m20, hsl, hzc.1, hzc.2]
    refine AFnD.of hcost2 ?_
    simp (disch := omega) [-getElem?_pos, if_pos, if_neg, decide_eq_true, decide_eq_false, hVF, d97, c87, c57, inst_cut, writeA, over]
  case' inr.inr =>
    have d97 := c97
    rw [hS] at d97
    have hVF := eq_false hV
    generalize hbc : bC (bestK y C) = bc at *
    generalize hcc : y.costOf Z = cc at *
    simp (disch := omega) [-getElem?_pos, if_pos, if_neg, decide_eq_true, decide_eq_false, d97, c87, c57, inst_cut, ↓ieval_slhi, m20, hsl, hzc.1, hzc.2]
    refine AFnD.of hcost2 ?_
    simp (disch := omega) [-getElem?_pos, if_pos, if_neg, decide_eq_true, decide_eq_false, hVF, d97, c87, c57, inst_cut, writeA, over]
  all_goals subst hbc
  all_goals
    generalize hH8 : AH.alloc H7 _ = H8
    have k8 : Keep [] H7 H8 := by rw [← hH8]; exact .alloc
    have w8 : WF H8 := by rw [← hH8]; exact w7.alloc
    have n8 : H8.next = H7.next + 1 := by rw [← hH8]; simp
    have b158 : H8.blk H7.next = some (.row [.int .i64 0] T_int true) := by rw [← hH8]; exact AH.alloc_blk_new
    clear hH8
    have c58 := cells_kept w7 k8 c57
    have c88 := cells_kept w7 k8 c87
    have c98 := cells_kept w7 k8 c97
    have b48 := (k8.blk (q0 + 1) (by omega) (by simp)).trans b47
    have hx8 := hx7.kept w7 k8
    refine (All_spec hx8).mono' fun u H9 w9 ⟨iv', cv', sv', e9', hu, hH9⟩ => ?_
    subst hu
    have k9 : Keep [] H8 H9 := by rw [hH9]; exact .alloc
    have n9 : H9.next = H8.next + 1 := by rw [hH9]; simp
    have c99' : H9.cells H8.next = some (instC y iv' cv' sv') := by rw [hH9]; simp
    clear hH9
    have hx9 := hx8.kept w8 k9
    have c59 := cells_kept w8 k9 c58
    have c89 := cells_kept w8 k9 c88
    have c99 := cells_kept w8 k9 c98
    have b49 := (k9.blk (q0 + 1) (by omega) (by simp)).trans b48
    have b159 := (k9.blk H7.next (by omega) (by simp)).trans b158
    simp (disch := omega) [-getElem?_pos, if_pos, if_neg, decide_eq_true, decide_eq_false, ]
    refine wpC_range (p := #[]) (q := #[.pointer (some ⟨H8.next, 0, none⟩)]) (by simp) good_brute_All_1 ?_
    generalize hLd : (LoopA.mk _ _ _ _ _ _ _ : LoopA) = L0
    have hF : LoopF L0 110 82 16 leastBody := by rw [← hLd]; exact ⟨rfl, rfl, rfl, rfl, rfl, rfl⟩
    have f5 : L0.env 5 = some (.pointer (some ⟨H3.next, 0, none⟩)) := by rw [← hLd]; simp
    have f8 : L0.env 8 = some (.pointer (some ⟨H5.next, 0, none⟩)) := by rw [← hLd]; simp
    have f9 : L0.env 9 = some (.pointer (some ⟨H5.next + 1, 0, none⟩)) := by rw [← hLd]; simp
    have f15 : L0.env 15 = some (.pointer (some ⟨H7.next, 0, none⟩)) := by rw [← hLd]; simp
    clear hLd
    have k10 : Keep [] H9 (H9.alloc (.loop L0)) := .alloc
    have w10 : WF (H9.alloc (.loop L0)) := w9.alloc
    have n10 : (H9.alloc (.loop L0)).next = H9.next + 1 := by simp
    have bl10 : (H9.alloc (.loop L0)).blk H9.next = some (.loop L0) := AH.alloc_blk_new
    generalize H9.alloc (.loop L0) = H10 at *
    have c510 := cells_kept w9 k10 c59
    have c810 := cells_kept w9 k10 c89
    have c910 := cells_kept w9 k10 c99
    have b410 := (k10.blk (q0 + 1) (by omega) (by simp)).trans b49
    have b1510 := (k10.blk H7.next (by omega) (by simp)).trans b159
    have hx10 := hx9.kept w9 k10
    have hx10' : InstV (fun b => b < H4.next) H10 (.agg (instC y iv' cv' sv').toArray) y := by rw [← e9']; exact hx10
    refine (All1_spec (l := H9.next) (n0 := H10.next) (C := C) (Inv := fun _ => LeI H10 H10.next H7.next) (Fin := fun _ => LeF H10 H10.next H7.next H9.next L0) hx10' (cells_kept w9 k10 c99') hE hC (Nat.le_refl _) (fun O hO => ?_) (fun O hO => ⟨Nat.le_refl _, fun b hb => ?_⟩)).mono' fun u H11 w11 ⟨O, hO, hr⟩ => ?_
    · exact least_yld (q := H3.next) (iv := ia) (cv := ca) (sv := sa) w10 hF bl10 rfl (by omega) (by omega) (by omega) (by omega) (by omega) (by omega) (by omega) b1510 c810 c910 c510 (hx10.up (fun b hb => ⟨by omega, by omega, by omega⟩) .refl) hE hC hC2 f5 f8 f9 f15 hO
    · by_cases h : b = H7.next
      · subst h; rw [AH.set_blk_same]; exact b1510
      · rw [AH.set_blk_ne h]
    · have hcell : ∀ b cs, b < H10.next → b ≠ H7.next → b ≠ H9.next → H10.cells b = some cs → (∀ B, (H11.set H9.next B).cells b = some cs) := fun b cs hb h1 h2 hc B => by
        rw [AH.cells_set_ne h2]
        unfold AH.cells at hc ⊢
        rcases hr with ⟨_, hI⟩ | ⟨_, kk, hI⟩
        · rw [hI b hb, AH.set_blk_ne h1]; exact hc
        · rw [hI b hb, AH.set_blk_ne h2, AH.set_blk_ne h1]; exact hc
      have hblk4 : ∀ B, (H11.set H9.next B).blk (q0 + 1) = some (.row [.bool false] T_bool true) := fun B => by
        rw [AH.set_blk_ne (by omega)]
        rcases hr with ⟨_, hI⟩ | ⟨_, kk, hI⟩
        · rw [hI _ (by omega), AH.set_blk_ne (by omega)]; exact b410
        · rw [hI _ (by omega), AH.set_blk_ne (by omega), AH.set_blk_ne (by omega)]; exact b410
      have g5 := hcell H3.next _ (by omega) (by omega) (by omega) c510
      have g9 := hcell (H5.next + 1) _ (by omega) (by omega) (by omega) c910
      have hend : ∀ (Q : AExit → Env → AH → Prop) (env : Env), (∀ B, Q .normal env (H11.set H9.next B)) → (∀ B, Q (.exit 0) env (H11.set H9.next B)) → rangeK H9.next Q env H11 := fun Q env q1 q2 => by
        rcases hr with ⟨_, hI⟩ | ⟨_, kk, hI⟩
        · exact rangeK_end hF (by rw [hI _ (by omega), AH.set_blk_ne (by omega)]; exact bl10) q1
        · unfold rangeK
          rw [hI _ (by omega), AH.set_blk_same]
          exact ⟨by simp, by simp, q2 _⟩
      refine hend _ _ (fun B => ?_) (fun B => ?_)
      all_goals
        have e5c := g5 B
        have e9c := g9 B
        have wr := writeA_of (H := H11.set H9.next B) (b := q0 + 1) (off := 0) (news := [Value.bool true]) (hblk4 B) (by simp)
        simp only [instC] at e5c
        generalize H11.set H9.next B = H12 at *
        by_cases hS' : (bestK y C).isSome = true
        · rw [hS'] at e9c
          simp (disch := omega) [-getElem?_pos, if_pos, if_neg, decide_eq_true, decide_eq_false, e9c, wr, over]
        · have hS2 : (bestK y C).isSome = false := by simpa using hS'
          have hk3 : y.kind = 3 := Classical.byContradiction fun h => hS' (hsome h)
          rw [hS2] at e9c
          simp (disch := omega) [-getElem?_pos, if_pos, if_neg, decide_eq_true, decide_eq_false, e9c, e5c, hk3, wr, over]
end Go.Proofs.Ytlcddhgfkkjhkaa
