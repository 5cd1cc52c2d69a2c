/-
  package tree (4): Levels, whole.
-/
import Derived.Test.YtlcddhgfkkjhkaaDoorTreeLv
set_option maxRecDepth 100000
set_option linter.unusedSimpArgs false
set_option linter.unusedVariables false
namespace Go.Proofs.YtlcddhgfkkjhkaaDoor
open Go Go.Abs
def mostN (most : Int) : Nat := (if most < 1048576 then most else 1048576).toNat
noncomputable def LvP (H : AH) (x : InstD) (most : Int) (u : Value) (H' : AH) : Prop :=
  Keep [] H H' ∧ if x.check = 0 then (if (allS x).length ≤ mostN most then ∃ av, u = .tuple #[av, .int .i64 0] ∧ NewL H av (nI (lvK x (allS x).length)) H' else u = .tuple #[.slice none 0 0, .int .i64 24]) else u = .tuple #[.slice none 0 0, .int .i64 x.check]
theorem G_small {H : AH} (hw : WF H) (hg : GroundA G H) : ∀ p ∈ G, p.1 < H.next := fun p hp => cells_lt hw (hg p hp)
theorem Levels_spec {H : AH} {v : Value} {x : InstD} {most : Int} (hg : GroundA G H) (hx : InstV (fun b => b < H.next) H v x) (hmo : I64 most) (hC : x.check = 0 → min (allS x).length (mostN most + 1) ≤ 100000) :
    AFn Tryd.prog F_tree_Levels [v, .int .i64 most] H (LvP H x most) := by
  obtain ⟨iv, cv, sv, rfl, i1, i2, i3, h1, h2, h3⟩ := id hx
  refine AFn.enter mixed ir_tree_Levels_eq (by simp [ir_tree_Levels]) fun hw => ?_
  simp (disch := omega) [-getElem?_pos, if_pos, if_neg, decide_eq_true, decide_eq_false, ir_tree_Levels, inst_cut]
  generalize hH1 : AH.alloc (AH.alloc (AH.alloc (AH.alloc H _) _) _) _ = H1
  have k1 : Keep [] H H1 := by rw [← hH1]; exact .new_alloc (.new_alloc (.new_alloc .alloc))
  have w1 : WF H1 := by rw [← hH1]; exact hw.alloc.alloc.alloc.alloc
  have n1 : H1.next = H.next + 4 := by rw [← hH1]; simp
  have c2 : H1.cells H.next = some (instC x iv cv sv) := by rw [← hH1]; exact cells_kept hw.alloc (.new_alloc (.new_alloc .alloc)) AH.cells_alloc_new
  have c3 : H1.cells (H.next + 1) = some [.int .i64 most] := by rw [← hH1]; exact cells_kept hw.alloc.alloc (.new_alloc .alloc) AH.cells_alloc_new
  have b4 : H1.blk (H.next + 2) = some (.row [.slice none 0 0] T_Lint true) := by rw [← hH1, AH.alloc_blk_ne (by simp)]; exact AH.alloc_blk_new
  have b5 : H1.blk (H.next + 3) = some (.row [.int .i64 0] T_api_Errno true) := by rw [← hH1]; exact AH.alloc_blk_new
  clear hH1
  have hx1 := hx.kept hw k1
  have hche := x.check_i64
  refine AFn.pure (Check_spec hx1) ?_
  have c4 := AH.cells_of b4
  have c5 := AH.cells_of b5
  by_cases hc : x.check = 0
  · have hok := InstD.check_ok.1 hc
    have hP : ∀ u H', LvP H x most u H' = (Keep [] H H' ∧ if (allS x).length ≤ mostN most then ∃ av, u = .tuple #[av, .int .i64 0] ∧ NewL H av (nI (lvK x (allS x).length)) H' else u = .tuple #[.slice none 0 0, .int .i64 24]) := fun u H' => by unfold LvP; rw [if_pos hc]
    have hC' := hC hc
    have hcT := eq_true hc
    have hcut6 := inst_cut x iv cv sv
    simp (disch := omega) [-getElem?_pos, if_pos, if_neg, decide_eq_true, decide_eq_false, hcT, c2, hcut6, writeA, over]
    generalize hH2 : AH.set (AH.alloc (AH.alloc H1 _) _) _ _ = H2
    have k2 : Keep [] H1 H2 := by rw [← hH2]; exact .new_set (by omega) (.new_alloc .alloc)
    have w2 : WF H2 := by rw [← hH2]; exact WF.set w1.alloc.alloc (by simp)
    have n2 : H2.next = H1.next + 2 := by rw [← hH2]; simp
    have b7 : H2.blk H1.next = some (.row [.slice none 0 0] T_Lint true) := by rw [← hH2, AH.set_blk_ne (by omega), AH.alloc_blk_ne (by simp)]; exact AH.alloc_blk_new
    have b8 : H2.blk (H1.next + 1) = some (.row [.int .i64 0] T_int true) := by rw [← hH2]; exact AH.set_blk_same
    clear hH2
    have hx2 := hx1.kept w1 k2
    have c22 := cells_kept w1 k2 c2
    refine (TAll_spec hx2).mono' fun u H3 w3 ⟨iv', cv', sv', e3, hu, hH3⟩ => ?_
    subst hu
    have k3 : Keep [] H2 H3 := by rw [hH3]; exact .alloc
    have n3 : H3.next = H2.next + 1 := by rw [hH3]; simp
    have c33 : H3.cells H2.next = some (instC x iv' cv' sv') := by rw [hH3]; simp
    clear hH3
    have hx3 := hx2.kept w2 k3
    have e3' : Value.agg #[Value.int IntKind.i64 x.kind, .int .i64 x.cap, iv, cv, .int .i64 x.size, sv] = .agg (instC x iv' cv' sv').toArray := e3
    rw [e3'] at hx3
    simp (disch := omega) [-getElem?_pos, if_pos, if_neg, decide_eq_true, decide_eq_false, ]
    refine wpC_range (p := #[]) (q := #[.pointer (some ⟨H2.next, 0, none⟩)]) (by simp) good_tree_All_1 ?_
    generalize hL : (LoopA.mk _ _ _ _ _ _ _ : LoopA) = L0
    have L1 : L0.state = .ready := by rw [← hL]
    have L2 : L0.pending = none := by rw [← hL]
    have L3 : L0.params = [17] := by rw [← hL]
    have L4 : L0.assign = tree_LevelsAsg := by rw [← hL]; rfl
    have L5 : L0.body = tree_LevelsBody := by rw [← hL]; rfl
    have L6 : L0.n = 42 := by rw [← hL]
    have E3 : L0.env 3 = some (.pointer (some ⟨H.next + 1, 0, none⟩)) := by rw [← hL]; simp
    have E4 : L0.env 4 = some (.pointer (some ⟨H.next + 2, 0, none⟩)) := by rw [← hL]; simp
    have E5 : L0.env 5 = some (.pointer (some ⟨H.next + 3, 0, none⟩)) := by rw [← hL]; simp
    have E7 : L0.env 7 = some (.pointer (some ⟨H1.next, 0, none⟩)) := by rw [← hL]; simp
    have E8 : L0.env 8 = some (.pointer (some ⟨H1.next + 1, 0, none⟩)) := by rw [← hL]; simp
    clear hL
    obtain ⟨H4, hH4⟩ : ∃ H4, H4 = H3.alloc (.loop L0) := ⟨_, rfl⟩
    have k4 : Keep [] H3 H4 := by rw [hH4]; exact .alloc
    have w4 : WF H4 := by rw [hH4]; exact w3.alloc
    have n4 : H4.next = H3.next + 1 := by rw [hH4]; simp
    have bl : H4.blk H3.next = some (.loop L0) := by rw [hH4]; exact AH.alloc_blk_new
    rw [← hH4]
    clear hH4
    have k34 := k3.trans' k4
    have k24 := k2.trans' k34
    have k04 := k1.trans' k24
    have hgs := G_small hw hg
    have hY := levels_yst (H0 := H4) (l := H3.next) (n0 := H4.next) (q := H2.next) (r3 := H.next + 1) (r4 := H.next + 2) (r5 := H.next + 3) (r7 := H1.next) (r8 := H1.next + 1) (C := min (allS x).length (mostN most + 1)) (M := mostN most) (most := most) w4 rfl hok (hg.kept hw k04) (Nat.min_le_left _ _) rfl bl (cells_kept w3 k4 c33) (cells_kept w1 k24 c3) ⟨_, (k24.blk _ (by omega) (by simp)).trans b4⟩ ⟨_, (k24.blk _ (by omega) (by simp)).trans b5⟩ ⟨_, (k34.blk _ (by omega) (by simp)).trans b7⟩ ⟨_, (k34.blk _ (by omega) (by simp)).trans b8⟩
      (by omega) (fun p hp => by have := hgs p hp; omega) (hx3.up (fun b hb => by omega) (.kept w3 k4)) L1 L2 L3 L4 L5 L6 E3 E4 E5 E7 E8
    have hI0 : LvI H4 H4.next H1.next (H1.next + 1) (mostN most) x (fun _ => False) 0 H4 := by
      refine ⟨Nat.zero_le _, Nat.le_refl _, fun _ _ _ _ => rfl, (k34.blk _ (by omega) (by simp)).trans b8, _, [], (k34.blk _ (by omega) (by simp)).trans b7, .nil, by simp⟩
    refine (show AFn _ _ [.func (.yield H3.next) #[] #[], .pointer (some ⟨H2.next, 0, none⟩)] _ _ from (TAll1_spec hok hC' hY (fun p Hx hI => ?_) rfl hI0).mono' fun _ H5 w5 hr => ?_)
    · have := hI.1
      exact (stk_nil hok).2 (by omega)
    rcases hr with ⟨p, k, hk, hst, q0, q1, q2, q3, ov, S, q4, q5, q6⟩ | ⟨q0, q1, q2, q3, q4, L, q5, q6, q7⟩
    · have hkl := (stk_nil hok).1 hst
      obtain rfl : k = (allS x).length := by omega
      have bl5 : H5.blk H3.next = some (.loop L0) := by rw [q2 _ (by omega) (by omega) (by omega)]; exact bl
      unfold rangeK
      rw [bl5]
      simp only [L1, L2]
      refine ⟨by simp, ?_⟩
      generalize hH6 : AH.set H5 _ _ = H6
      have w6 : WF H6 := by rw [← hH6]; exact w5.set (by omega)
      have far6 : ∀ y, y ≠ H3.next → H6.blk y = H5.blk y := fun y h => by rw [← hH6, AH.set_blk_ne h]
      have n6 : H6.next = H5.next := by rw [← hH6]; rfl
      clear hH6
      have b76 := (far6 H1.next (by omega)).trans q4
      have b46 : H6.blk (H.next + 2) = some (.row [.slice none 0 0] T_Lint true) := by rw [far6 _ (by omega), q2 _ (by omega) (by omega) (by omega), k24.blk _ (by omega) (by simp)]; exact b4
      have b56 : H6.blk (H.next + 3) = some (.row [.int .i64 0] T_api_Errno true) := by rw [far6 _ (by omega), q2 _ (by omega) (by omega) (by omega), k24.blk _ (by omega) (by simp)]; exact b5
      have c76 := AH.cells_of b76
      have hoc := q5.cell
      have wr4 := writeA_of (off := 0) (news := [ov]) b46 (by simp)
      have wr5 := writeA_of (H := H6.set (H.next + 2) (.row [ov] T_Lint true)) (off := 0) (news := [Value.int .i64 0]) (by rw [AH.set_blk_ne (show H.next + 3 ≠ H.next + 2 by omega)]; exact b56) (by simp)
      simp only [over, List.take_zero, List.nil_append, List.length_cons, List.length_nil, Nat.zero_add, List.drop_succ_cons, List.drop_zero, List.append_nil] at wr4 wr5
      have hne : H.next + 3 ≠ H.next + 2 := by omega
      simp (disch := omega) [-getElem?_pos, if_pos, if_neg, decide_eq_true, decide_eq_false, c76, hoc.1, hoc.2, wr4, wr5]
      rw [hP, if_pos q0]
      have hkeep : Keep [] H ((H6.set (H.next + 2) (.row [ov] T_Lint true)).set (H.next + 3) (.row [.int .i64 0] T_api_Errno true)) :=
        ⟨by simp; omega, fun y hy _ => by rw [AH.set_blk_ne (by omega), AH.set_blk_ne (by omega), far6 y (by omega), q2 y (by omega) (by omega) (by omega), k04.blk y hy (by simp)]⟩
      refine ⟨hkeep, ov, by simp, S, q5.up (fun _ h => h) (fun _ h => h.elim) (fun y hy => ?_) (fun _ _ h => h), hkeep, fun y hy => by have := (q6 y hy).1; omega⟩
      have := (q6 y hy).1
      rw [AH.set_blk_ne (by omega), AH.set_blk_ne (by omega), far6 y (by omega)]
    · unfold rangeK
      rw [q5]
      simp only [q6, q7]
      refine ⟨by simp, by simp, ?_⟩
      generalize hH6 : AH.set H5 _ _ = H6
      have far6 : ∀ y, y ≠ H3.next → H6.blk y = H5.blk y := fun y h => by rw [← hH6, AH.set_blk_ne h]
      have n6 : H6.next = H5.next := by rw [← hH6]; rfl
      clear hH6
      have c46 := AH.cells_of ((far6 (H.next + 2) (by omega)).trans q3)
      have c56 := AH.cells_of ((far6 (H.next + 3) (by omega)).trans q4)
      simp (disch := omega) [-getElem?_pos, if_pos, if_neg, decide_eq_true, decide_eq_false, c46, c56]
      rw [hP, if_neg (by omega)]
      exact ⟨⟨by omega, fun y hy _ => by rw [far6 y (by omega), q2 y (by omega) (by omega) (by omega) (by omega) (by omega) (by omega), k04.blk y hy (by simp)]⟩, rfl⟩
  · have hP : ∀ u H', LvP H x most u H' = (Keep [] H H' ∧ u = .tuple #[.slice none 0 0, .int .i64 x.check]) := fun u H' => by unfold LvP; rw [if_neg hc]
    have hcF := eq_false hc
    have wr4 := writeA_of (off := 0) (news := [Value.slice none 0 0]) b4 (by simp)
    have wr5 := writeA_of (H := H1.set (H.next + 2) (.row [.slice none 0 0] T_Lint true)) (off := 0) (news := [Value.int .i64 x.check]) (by rw [AH.set_blk_ne (show H.next + 3 ≠ H.next + 2 by omega)]; exact b5) (by simp)
    simp only [over, List.take_zero, List.nil_append, List.length_cons, List.length_nil, Nat.zero_add, List.drop_succ_cons, List.drop_zero, List.append_nil] at wr4 wr5
    generalize x.check = e at *
    simp (disch := omega) [-getElem?_pos, if_pos, if_neg, decide_eq_true, decide_eq_false, hcF, wr4, wr5]
    rw [hP]
    exact ⟨.new_set (by omega) (.new_set (by omega) k1), by simp⟩
end Go.Proofs.YtlcddhgfkkjhkaaDoor
