/-
  package state (5): Apply.
-/
import Derived.Test.YtlcddhgfkkjhkaaDoorState4
set_option maxRecDepth 100000
set_option linter.unusedSimpArgs false
set_option linter.unusedVariables false
namespace Go.Proofs.YtlcddhgfkkjhkaaDoor
open Go Go.Abs
theorem Contains_spec {p : Nat → Prop} {H : AH} {v : Value} {L : List Int} {y : Int} (hL : SlV p H v L) : AFn Tryd.prog F_slices_Contains_Lint_int [v, .int .i64 y] H fun u H' => u = .bool (decide (y ∈ L)) ∧ H' = H := by
  obtain ⟨va, vc, rfl⟩ := hL.slice
  refine AFn.enter mixed ir_slices_Contains_Lint_int_eq (by simp [ir_slices_Contains_Lint_int]) fun hw => ?_
  have hi : (0 ≤ idxV L y) ↔ y ∈ L := by
    unfold idxV
    split
    · rename_i h; exact ⟨fun _ => h, fun _ => by omega⟩
    · rename_i h; exact ⟨fun h => by omega, fun h2 => absurd h2 h⟩
  simp (disch := omega) [-getElem?_pos, if_pos, if_neg, decide_eq_true, decide_eq_false, ir_slices_Contains_Lint_int]
  refine AFn.pure (Index_spec hL) ?_
  generalize idxV L y = j at *
  simp (disch := omega) [-getElem?_pos, if_pos, if_neg, decide_eq_true, decide_eq_false, hi]
def ApP (p : Nat → Prop) (H : AH) (x : InstD) (s : StD) (d : Int) (u : Value) (H' : AH) : Prop :=
  Keep [] H H' ∧ if d ∈ x.moves s then ∃ sv, u = .tuple #[sv, .int .i64 0] ∧ StV (fun b => (p b ∨ H.next ≤ b) ∧ b < H'.next) H' sv (x.applyS s d) else ∃ sv, u = .tuple #[sv, .int .i64 2] ∧ StV (fun b => (p b ∨ H.next ≤ b) ∧ b < H'.next) H' sv zeroSt
theorem ApP_yes {p : Nat → Prop} {q : Nat} {H H' : AH} {x : InstD} {s : StD} {d : Int} {sv : Value} (hq : H.next = q) (h : d ∈ x.moves s) (k : Keep [] H H') (hs : StV (fun b => (p b ∨ q ≤ b) ∧ b < H'.next) H' sv (x.applyS s d)) : ApP p H x s d (.tuple #[sv, .int .i64 0]) H' := by
  subst hq; unfold ApP; rw [if_pos h]; exact ⟨k, sv, rfl, hs⟩
theorem ApP_no {p : Nat → Prop} {H H' : AH} {x : InstD} {s : StD} {d : Int} {sv : Value} (h : d ∉ x.moves s) (k : Keep [] H H') (hs : StV (fun b => (p b ∨ H.next ≤ b) ∧ b < H'.next) H' sv zeroSt) : ApP p H x s d (.tuple #[sv, .int .i64 2]) H' := by
  unfold ApP; rw [if_neg h]; exact ⟨k, sv, rfl, hs⟩
theorem moves_len {x : InstD} {s : StD} : (x.moves s).length ≤ s.used.length + 2 := by
  unfold InstD.moves
  have : (freeL s.used).length ≤ s.used.length := by
    unfold freeL
    rw [List.length_map]
    exact Nat.le_trans (List.length_filter_le _ _) (by simp)
  repeat' split
  all_goals first | (simp; done) | (simp; omega) | omega
theorem Apply_spec {H : AH} {p : Nat → Prop} {v w : Value} {s : StD} {x : InstD} {d : Int} (hg : GroundA G H) (hp : ∀ b, p b → b < H.next) (hs : StV p H v s) (hx : InstV (fun b => b < H.next) H w x) (hok : x.Ok) (hso : StOk x s) (hd : I64 d) (hpl : s.path.length ≤ 10000) :
    AFn Tryd.prog F_state_State_Apply [v, w, .int .i64 d] H (ApP p H x s d) := by
  obtain ⟨pv, uv, rfl, s1, s2⟩ := id hs
  obtain ⟨iv, cv, sv, rfl, i1, i2, i3, h1, h2, h3⟩ := id hx
  have hc := SetB_cell s2
  have hcp := s1.cell
  have hcc := h2.cell
  have hci := h1.cell
  have hcs := h3.cell
  obtain ⟨pa, pc, rfl⟩ := s1.slice
  have hp0 := hp
  refine AFn.enter mixed ir_state_State_Apply_eq (by simp [ir_state_State_Apply]) fun hw => ?_
  simp (disch := omega) [-getElem?_pos, if_pos, if_neg, decide_eq_true, decide_eq_false, ir_state_State_Apply, hc.1, hcp.1, hcc.1, hci.1, hcs.1, cut6']
  generalize hq : H.next = q at *
  generalize hH1 : AH.alloc (AH.alloc _ _) _ = H1
  have k1 : Keep [] H H1 := by rw [← hH1]; exact .new_alloc (.new_alloc .alloc)
  have w1 : WF H1 := by rw [← hH1]; exact hw.alloc.alloc.alloc
  have n1 : H1.next = q + 3 := by rw [← hH1]; simp [hq]
  have d0 : H1.blk q = some (.row [.slice pa s.path.length pc, .int .i64 s.cost, .int .i64 s.left, .int .i64 s.pos, .int .i64 s.used.length, uv] T_state_State true) := by rw [← hH1]; simp (disch := omega) [hq, if_pos, if_neg]
  have d1 : H1.cells (q + 1) = some [.int .i64 x.kind, .int .i64 x.cap, iv, cv, .int .i64 x.size, sv] := by rw [← hH1]; simp [hq]
  have d2 : H1.blk (q + 2) = some (.row [.slice none 0 0, .int .i64 0, .int .i64 0, .int .i64 0, .int .i64 0, .slice none 0 0] T_state_State true) := by rw [← hH1]; simp [hq]
  clear hH1
  refine (Moves_spec (hg.kept hw k1) (hs.kept hw k1).any (hx.kept hw k1).any hok hso).mono' fun u H2 w2 ⟨S2, hM, k2, hS2⟩ => ?_
  have n2 := k2.next
  obtain ⟨ma, mc, rfl⟩ := hM.slice
  have hMl : (x.moves s).length ≤ 9223372036854775807 := by
    have h1 := moves_len (x := x) (s := s)
    have h2 := slots_le hok
    have h3 := hso.used
    omega
  simp (disch := omega) [-getElem?_pos, if_pos, if_neg, decide_eq_true, decide_eq_false, ]
  refine AFn.pure (Contains_spec (hM.slv (q := fun _ => True) (fun _ h => h.elim) (fun _ _ => trivial) hMl)) ?_
  have d02 := (k2.blk q (by omega) (by simp)).trans d0
  have d12 := cells_kept w1 k2 d1
  have d22 := (k2.blk (q + 2) (by omega) (by simp)).trans d2
  have c02 := AH.cells_of d02
  have k02 := k1.trans' k2
  by_cases hdm : d ∈ x.moves s
  · have hdT := eq_true hdm
    have s12 := s1.kept hw k02
    simp (disch := omega) [-getElem?_pos, if_pos, if_neg, decide_eq_true, decide_eq_false, hdT, c02]
    refine (CloneI_spec s12 (by omega)).mono' fun u H3 w3 ⟨S3, hP, k3, hS3⟩ => ?_
    have n3 := k3.next
    obtain ⟨va, vc, H4, S4, p1, w4, hP4, k4, hS4, k4', i4⟩ := push_i64 (ty := T_int) (H := H2) w3 hP k3 hS3 hd (by omega)
    obtain ⟨ua, uc, rfl⟩ := hP.slice
    have n4 := k4.next
    have pE : elemsA (H3.alloc (.row [.int .i64 d] T_int true)) 1 (.slice (some ⟨H3.next, 0, none⟩) 1 1) = some [.int .i64 d] := elems_one rfl
    have d04 := (k4.blk q (by omega) (by simp)).trans d02
    have d14 := cells_kept w2 k4 d12
    have d24 := (k4.blk (q + 2) (by omega) (by simp)).trans d22
    have wr := writeA_of (off := 0) (news := [Value.slice va (s.path.length + 1) vc]) d04 (by simp)
    simp only [over, List.take_zero, List.nil_append, List.length_cons, List.length_nil, Nat.zero_add, List.drop_succ_cons, List.drop_zero, List.cons_append, List.append_nil] at wr
    simp (disch := omega) [-getElem?_pos, if_pos, if_neg, decide_eq_true, decide_eq_false, pE, p1, wr, d14]
    generalize hH5 : AH.set H4 _ _ = H5
    have k05 : Keep [] H H5 := by rw [← hH5]; exact .new_set (by omega) (k02.trans' k4)
    have w5 : WF H5 := by rw [← hH5]; exact w4.set (by omega)
    have n5 : H5.next = H4.next := by rw [← hH5]; rfl
    have d05 : H5.blk q = some (.row [.slice va (s.path.length + 1) vc, .int .i64 s.cost, .int .i64 s.left, .int .i64 s.pos, .int .i64 s.used.length, uv] T_state_State true) := by rw [← hH5, AH.set_blk_same]
    have d15 : H5.cells (q + 1) = H4.cells (q + 1) := by rw [← hH5, AH.cells_set_ne (by omega)]
    replace d15 := d15.trans d14
    have d25 : H5.blk (q + 2) = H4.blk (q + 2) := by rw [← hH5, AH.set_blk_ne (by omega)]
    replace d25 := d25.trans d24
    have P5 : SlV (fun b => b < H5.next ∧ q + 3 ≤ b) H5 (.slice va (s.path.length + 1) vc) (s.path ++ [d]) := by
      have hl : (s.path ++ [d]).length = s.path.length + 1 := by simp
      have := hP4.slv (q := fun b => b < H4.next ∧ q + 3 ≤ b) (fun _ h => h.elim) (fun b hb => ⟨hP4.lt w4 b hb, by have := hS4 b hb; omega⟩) (by omega)
      rw [← hH5]
      exact this.up (fun b hb => hb) (.set (by omega))
    clear hH5
    have hc05 := AH.cells_of d05
    have hk0 := hok.kind0
    have hk4 := hok.kind4
    have hP5c := P5.cell
    have hcb := hso.cost
    have hU5 := SetB_sub s2 (q := p) (fun b hb => hb) (.kept hw k05)
    by_cases hk1 : x.kind = 1
    · have hk1T := eq_true hk1
      obtain ⟨g1, g2, g3, g4⟩ := moves_tour (.inl hk1) hdm
      have hz := size_zero hok (.inl hk1)
      have hus := hso.used
      obtain ⟨D, hD⟩ : ∃ D : Nat, d = D := ⟨d.toNat, by omega⟩
      have hDl : D < x.cost.length := by omega
      have hkl : s.path.length < x.cost.length := by
        have := hso.rows hk1
        unfold InstD.done at g1
        rw [if_neg (by omega), if_pos hk1] at g1
        have : ¬ s.path.length = x.cost.length := by simpa using g1
        omega
      have hap : x.applyS s d = ⟨s.path ++ [d], s.cost + x.costN s.path.length D, s.left, s.pos, setT s.used d⟩ := by
        unfold InstD.applyS; rw [if_pos hk1, hD]; rfl
      have hmag := costN_mag hok hkl hDl
      obtain ⟨b1, off1, sp1, cap1, cs1, w1', b2, off2, sp2, cap2, cs2, rfl, r1, r2, rfl, r3, r4⟩ := row_cell (h2.kept hw k05) hok hkl
      have r4D := r4 D hDl
      have hwr := wr_mid (n := s.cost + x.costN s.path.length D) (by omega)
      have hmc := h2.max
      have hwith := fun (H6 : AH) (k6 : Keep [] H H6) => Bs.With_spec (SetB_sub s2 (q := p) (fun b hb => hb) (.kept hw k6)) d
      rw [hD] at hwith hdm ⊢
      rw [hD] at hap P5
      generalize x.costN s.path.length D = cc at *
      simp (disch := omega) [-getElem?_pos, if_pos, if_neg, decide_eq_true, decide_eq_false, hk1T, d15, r1, r2, r3, r4D, hkl, hDl, d05, hc05, hwr, writeA, over, cut42]
      generalize hH6 : AH.set H5 _ _ = H6
      have k06 : Keep [] H H6 := by rw [← hH6]; exact .new_set (by omega) k05
      have w6 : WF H6 := by rw [← hH6]; exact w5.set (by omega)
      have n6 : H6.next = H5.next := by rw [← hH6]; rfl
      have d06 : H6.blk q = some (.row [.slice va (s.path.length + 1) vc, .int .i64 (s.cost + cc), .int .i64 s.left, .int .i64 s.pos, .int .i64 s.used.length, uv] T_state_State true) := by rw [← hH6, AH.set_blk_same]
      have d26 : H6.blk (q + 2) = H5.blk (q + 2) := by rw [← hH6, AH.set_blk_ne (by omega)]
      replace d26 := d26.trans d25
      have P6 : SlV (fun b => b < H5.next ∧ q + 3 ≤ b) H6 (.slice va (s.path.length + 1) vc) (s.path ++ [(D : Int)]) := by rw [← hH6]; exact P5.sub (.set (by omega))
      clear hH6
      have c06 := AH.cells_of d06
      refine (hwith H6 k06).mono' fun u H7 w7 ⟨hu, k7⟩ => ?_
      rw [setT_eq] at hu
      obtain ⟨ul, rfl, _, _⟩ := id hu
      have hul : (setT s.used (D : Int)).length = s.used.length := setT_len
      rw [hul] at hu
      have hulI : ((setT s.used (D : Int)).length : Int) = (s.used.length : Int) := by rw [hul]
      have hone := SetB_cell hu
      have n7 := k7.next
      have d07 := (k7.blk q (by omega) (by simp)).trans d06
      have d27 := (k7.blk (q + 2) (by omega) (by simp)).trans d26
      simp (disch := omega) [-getElem?_pos, if_pos, if_neg, decide_eq_true, decide_eq_false, hulI, hone.1, hone.2, d07, d27, hP5c.1, hP5c.2, writeA, over, cut6']
      generalize hH8 : AH.set (AH.set H7 _ _) _ _ = H8
      have k08 : Keep [] H H8 := by rw [← hH8]; exact .new_set (by omega) (.new_set (by omega) (k06.trans' k7))
      have n8 : H8.next = H7.next := by rw [← hH8]; rfl
      have P8 : SlV (fun b => b < H5.next ∧ q + 3 ≤ b) H8 (.slice va (s.path.length + 1) vc) (s.path ++ [(D : Int)]) := by
        rw [← hH8]; exact (P6.kept w6 k7).sub (.trans (.set (by omega)) (.set (by omega)))
      have U8 : Bs.SetB (fun b => (p b ∨ q ≤ b) ∧ b < H8.next) H8 (.agg #[.int .i64 s.used.length, ul]) (setT s.used (D : Int)) := by
        refine SetB_sub (p := fun b => (p b ∨ q ≤ b) ∧ b < H7.next ∧ b ≠ q ∧ b ≠ q + 2) (SetB_sub (SetB_lt hu w7) (fun b hb => ?_) .refl) (fun b hb => ⟨hb.1, by omega⟩) (by rw [← hH8]; exact .trans (.set (by simp)) (.set (by simp)))
        obtain ⟨h | h, h2⟩ := hb
        · have := hp b h; exact ⟨.inl h, by omega, by omega, by omega⟩
        · exact ⟨.inr (by omega), by omega, by omega, by omega⟩
      refine ApP_yes hq hdm k08 ?_
      rw [hap]
      exact StV.mk' (s := ⟨s.path ++ [(D : Int)], s.cost + cc, s.left, s.pos, setT s.used (D : Int)⟩) hul (P8.mono fun b hb => ⟨.inr (by omega), by omega⟩) U8
    · have hk1F := eq_false hk1
      -- the state with the longer path
      have hst : StV (fun b => (p b ∨ q ≤ b) ∧ b < H5.next ∧ b ≠ q ∧ b ≠ q + 2) H5 (.agg #[.slice va (s.path.length + 1) vc, .int .i64 s.cost, .int .i64 s.left, .int .i64 s.pos, .int .i64 s.used.length, uv]) { s with path := s.path ++ [d] } :=
        StV.mk' (s := { s with path := s.path ++ [d] }) rfl (P5.mono fun b hb => ⟨.inr (by omega), hb.1, by omega, by omega⟩) (SetB_sub hU5 (fun b hb => by have := hp b hb; exact ⟨.inl hb, by omega, by omega, by omega⟩) .refl)
      have hx5 : InstV (fun b => b < H5.next) H5 (.agg #[.int .i64 x.kind, .int .i64 x.cap, iv, cv, .int .i64 x.size, sv]) x := hx.up (fun b hb => by omega) (.kept hw k05)
      have hst5 : ∀ b, ((p b ∨ q ≤ b) ∧ b < H5.next ∧ b ≠ q ∧ b ≠ q + 2) → b < H5.next := fun b hb => hb.2.1
      by_cases hk2 : x.kind = 2
      · have hk2T := eq_true hk2
        obtain ⟨g1, g2, g3, g4⟩ := moves_tour (.inr hk2) hdm
        have hz := size_zero hok (.inr hk2)
        have hus := hso.used
        obtain ⟨t1, t2, t3⟩ := hso.tour hk2
        have hap : x.applyS s d = x.wentS { s with path := s.path ++ [d] } d := by unfold InstD.applyS; rw [if_neg hk1, if_pos hk2]
        have hwent := went_spec hst5 hst hx5 hok hk2 (by show s.used.length = _; omega) ⟨t1, t2⟩ ⟨g2, by omega⟩ (by show _ ≤ s.cost ∧ s.cost ≤ _; omega)
        simp (disch := omega) [-getElem?_pos, if_pos, if_neg, decide_eq_true, decide_eq_false, hk1F, hk2T, d15, hc05, cut6']
        refine hwent.mono' fun u H6 w6 ⟨hu, k6⟩ => ?_
        rw [← hap] at hu
        have n6 := k6.next
        have d06 := (k6.blk q (by omega) (by simp)).trans d05
        have d26 := (k6.blk (q + 2) (by omega) (by simp)).trans d25
        obtain ⟨pv6, uv6, rfl, p6, u6⟩ := id hu
        have o1 := p6.cell
        have o2 := SetB_cell u6
        have k06 : Keep [] H H6 := k05.trans' k6
        simp (disch := omega) [-getElem?_pos, if_pos, if_neg, decide_eq_true, decide_eq_false, d06, d26, o1.1, o1.2, o2.1, o2.2, writeA, over, cut6']
        exact ApP_yes hq hdm (.new_set (by omega) (.new_set (by omega) k06)) (hu.up (fun b hb => ⟨by rcases hb.1 with h | h; exact h.1; exact .inr (by omega), hb.2⟩) (.trans (.set (by rintro ⟨h | h, _⟩ <;> omega)) (.set (by rintro ⟨h | h, _⟩ <;> omega))))
      · have hk2F := eq_false hk2
        by_cases hd1 : d = 1
        · have hd1T := eq_true hd1
          by_cases hk00 : x.kind = 0
          · have hap : x.applyS s d = x.choseS { s with path := s.path ++ [d] } s.path.length := by unfold InstD.applyS; rw [if_neg hk1, if_neg hk2, if_pos hd1]
            have hit := hso.items hk00
            have hkl : s.path.length < x.items.length := by
              unfold InstD.moves at hdm
              split at hdm
              · simp at hdm
              · rename_i hdn
                unfold InstD.done at hdn
                rw [if_pos hk00] at hdn
                have : ¬ s.path.length = x.items.length := by simpa using hdn
                omega
            have hch := chosen_spec0 hst5 hst hx5 hok hk00 hkl (by show _ ≤ s.cost ∧ s.cost ≤ _; omega) (by show _ ≤ s.left ∧ s.left ≤ _; omega)
            have hdI : (d : Int) = 1 := hd1
            simp (disch := omega) [-getElem?_pos, if_pos, if_neg, decide_eq_true, decide_eq_false, hk1F, hk2F, hd1T, d15, hc05, cut6']
            refine hch.mono' fun u H6 w6 ⟨hu, k6⟩ => ?_
            rw [← hap] at hu
            have n6 := k6.next
            have d06 := (k6.blk q (by omega) (by simp)).trans d05
            have d26 := (k6.blk (q + 2) (by omega) (by simp)).trans d25
            obtain ⟨pv6, uv6, rfl, p6, u6⟩ := id hu
            have o1 := p6.cell
            have o2 := SetB_cell u6
            have k06 : Keep [] H H6 := k05.trans' k6
            simp (disch := omega) [-getElem?_pos, if_pos, if_neg, decide_eq_true, decide_eq_false, d06, d26, o1.1, o1.2, o2.1, o2.2, writeA, over, cut6']
            exact ApP_yes hq hdm (.new_set (by omega) (.new_set (by omega) k06)) (hu.up (fun b hb => ⟨by rcases hb.1 with h | h; exact h.1; exact .inr (by omega), hb.2⟩) (.trans (.set (by rintro ⟨h | h, _⟩ <;> omega)) (.set (by rintro ⟨h | h, _⟩ <;> omega))))
          · have hk3 : x.kind = 3 := by omega
            have hap : x.applyS s d = x.choseS { s with path := s.path ++ [d] } s.path.length := by unfold InstD.applyS; rw [if_neg hk1, if_neg hk2, if_pos hd1]
            have hkl : s.path.length < x.sets.length := by
              unfold InstD.moves at hdm
              split at hdm
              · simp at hdm
              · split at hdm
                · simp at hdm
                · omega
            have hch := chosen_spec3 hst5 hst hx5 hok hk3 hkl (by show _ ≤ s.cost ∧ s.cost ≤ _; omega)
            simp (disch := omega) [-getElem?_pos, if_pos, if_neg, decide_eq_true, decide_eq_false, hk1F, hk2F, hd1T, d15, hc05, cut6']
            refine hch.mono' fun u H6 w6 ⟨hu, k6⟩ => ?_
            rw [← hap] at hu
            have n6 := k6.next
            have d06 := (k6.blk q (by omega) (by simp)).trans d05
            have d26 := (k6.blk (q + 2) (by omega) (by simp)).trans d25
            obtain ⟨pv6, uv6, rfl, p6, u6⟩ := id hu
            have o1 := p6.cell
            have o2 := SetB_cell u6
            have k06 : Keep [] H H6 := k05.trans' k6
            simp (disch := omega) [-getElem?_pos, if_pos, if_neg, decide_eq_true, decide_eq_false, d06, d26, o1.1, o1.2, o2.1, o2.2, writeA, over, cut6']
            exact ApP_yes hq hdm (.new_set (by omega) (.new_set (by omega) k06)) (hu.up (fun b hb => ⟨by rcases hb.1 with h | h; exact h.1; exact .inr (by omega), hb.2⟩) (.trans (.set (by rintro ⟨h | h, _⟩ <;> omega)) (.set (by rintro ⟨h | h, _⟩ <;> omega))))
        · have hd1F := eq_false hd1
          have hap : x.applyS s d = { s with path := s.path ++ [d] } := by unfold InstD.applyS; rw [if_neg hk1, if_neg hk2, if_neg hd1]
          have hone := SetB_cell hU5
          simp (disch := omega) [-getElem?_pos, if_pos, if_neg, decide_eq_true, decide_eq_false, hk1F, hk2F, hd1F, d15, hc05, d25, hP5c.1, hP5c.2, hone.1, hone.2, writeA, over, cut6']
          refine ApP_yes hq hdm (.new_set (by omega) k05) ?_
          rw [hap]
          exact hst.up (fun b hb => ⟨hb.1, hb.2.1⟩) (.set (by simp))
  · have hdF := eq_false hdm
    simp (disch := omega) [-getElem?_pos, if_pos, if_neg, decide_eq_true, decide_eq_false, hdF, d22, writeA, over]
    exact ApP_no hdm (.new_set (by omega) k02) stv_zero
end Go.Proofs.YtlcddhgfkkjhkaaDoor
