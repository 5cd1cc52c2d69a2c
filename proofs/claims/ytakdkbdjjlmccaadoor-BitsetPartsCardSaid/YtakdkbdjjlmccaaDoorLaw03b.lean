/-
  BitsetHolds: the walk.
-/
import Derived.Test.YtakdkbdjjlmccaaDoorLaw03
set_option maxRecDepth 100000
set_option linter.unusedSimpArgs false
set_option linter.unusedVariables false
namespace Go.Proofs.YtakdkbdjjlmccaaDoor
open Go Go.Abs
theorem _root_.Go.Abs.Vw.lt {p : Nat → Prop} {H : AH} {sz n : Nat} {v : Value} {cells : List Value} (h : Vw p H sz v n cells) (hw : WF H) : Vw (fun b => p b ∧ b < H.next) H sz v n cells := by
  refine ⟨h.1, ?_⟩
  rcases h.2 with h | ⟨b, off, sp, cap, cs, h1, h2, h3, h4, h5, hp⟩
  · exact .inl h
  · exact .inr ⟨b, off, sp, cap, cs, h1, h2, h3, h4, h5, hp, cells_lt hw h4⟩
theorem SetB.lt {p : Nat → Prop} {H : AH} {v : Value} {B : List Bool} (h : SetB p H v B) (hw : WF H) : SetB (fun b => p b ∧ b < H.next) H v B := by
  obtain ⟨sl, h1, h2, h3⟩ := h
  exact ⟨sl, h1, h2.lt hw, h3⟩
theorem BoolsV.lt {p : Nat → Prop} {H : AH} {v : Value} {B : List Bool} (h : BoolsV p H v B) (hw : WF H) : BoolsV (fun b => p b ∧ b < H.next) H v B := ⟨h.1.lt hw, h.2⟩
def HoldsS (H : AH) (p7 n : Nat) (env : Env) (H' : AH) : Prop :=
  ∃ sl tv B, B.length = n ∧ env 8 = some tv ∧ H'.blk p7 = some (.row [.int .i64 (n : Nat), sl] T_bitset_Set true) ∧ SetB (fun b => H.next ≤ b ∧ b ≠ p7) H' (.agg #[.int .i64 (n : Nat), sl]) B ∧ BoolsV (fun b => H.next ≤ b ∧ b ≠ p7) H' tv B
def HoldsE (H : AH) (p7 : Nat) (lv ov : Value) (m i : Nat) (env : Env) (H' : AH) : Prop :=
  WF H' ∧ Keep [] H H' ∧ H.next ≤ p7 ∧ p7 < H'.next ∧ env 2 = some ov ∧ env 7 = some (.pointer (some ⟨p7, 0, none⟩)) ∧ env 25 = some lv ∧ env 26 = some (.int .i64 (m : Nat)) ∧ env 27 = some (.int .i64 (i : Nat))
def HoldsJ (H : AH) (p7 pv n : Nat) (lv ov : Value) (m i : Nat) (x y : Int) (j : Nat) (env : Env) (H' : AH) : Prop :=
  HoldsE H p7 lv ov m i env H' ∧ HoldsS H p7 n env H' ∧ H.next ≤ pv ∧ pv ≠ p7 ∧ H'.cells pv = some [.int .i64 x, .int .i64 y] ∧ env 9 = some (.int .i64 (i : Nat)) ∧ env 36 = some (.slice (some ⟨pv, 0, none⟩) 2 2) ∧ env 37 = some (.int .i64 2) ∧ env 38 = some (.int .i64 (j : Nat))
theorem holds_l0 {env : Env} {H H' : AH} {p7 pv n m i no : Nat} {lv ov : Value} {x y : Int} {outs : List Bool} (hg : GroundA G H) (hw : WF H) (ho : Rd H 1 ov no (outs.map .bool)) (hn : n < 200) (hi : i < 100) (h : HoldsJ H p7 pv n lv ov m i x y 0 env H') :
    wpC Tryd.prog 98 (.loop ir_law03_BitsetHolds_l0) (fun e env H' => e = .exit 2 ∧ HoldsE H p7 lv ov m i env H' ∧ HoldsS H p7 n env H') env H' := by
  refine loop_upto 2 (HoldsJ H p7 pv n lv ov m i x y) h ?_
  intro j env H' hj hI
  obtain ⟨⟨w', k', hp7, hp7', e2, e7, e25, e26, e27⟩, ⟨sl, tv, B, hB, e8, d7, hS, hT⟩, hpv, hpv7, cv, e9, e36, e37, e38⟩ := hI
  by_cases hj2 : j < 2
  · obtain ⟨v, hv⟩ : ∃ v : Int, [Value.int .i64 x, .int .i64 y][j]? = some (.int .i64 v) := by
      rcases (show j = 0 ∨ j = 1 by omega) with rfl | rfl
      · exact ⟨x, rfl⟩
      · exact ⟨y, rfl⟩
    generalize hcs : [Value.int .i64 x, .int .i64 y] = cs at *
    have hlo : outs.length = no := by have := ho.len; simpa using this
    simp (disch := omega) [-getElem?_pos, if_pos, if_neg, decide_eq_true, decide_eq_false, ir_law03_BitsetHolds_l0, e36, e37, e38, e7, cv, hv, AH.cells_of d7, cut]
    refine (List_spec (hg.kept hw k') hS).mono' fun u1 H1 w1 ⟨S1, o1, k1, hS1⟩ => ?_
    obtain ⟨a1, c1, rfl⟩ := o1.slice
    have hn1 := k1.next
    have d7a : H1.blk p7 = some (.row [.int .i64 (n : Nat), sl] T_bitset_Set true) := by rw [k1.blk _ hp7' (by simp), d7]
    simp (disch := omega) [-getElem?_pos, if_pos, if_neg, decide_eq_true, decide_eq_false, e7, AH.cells_of d7a, cut]
    refine (With_spec (hS.kept w' k1) v).mono' fun u2 H2 w2 ⟨hS2, k2⟩ => ?_
    have hn2 := k2.next
    have hlen2 := setB_length B v true
    obtain ⟨sl2, rfl, v2, v3⟩ := id hS2
    rw [hlen2, hB] at hS2
    simp only [hlen2, hB]
    have d7b : H2.blk p7 = some (.row [.int .i64 (n : Nat), sl] T_bitset_Set true) := by rw [k2.blk _ (by omega) (by simp), d7a]
    have hSb := (hS.kept w' k1).kept w1 k2
    have hTb := (hT.kept w' k1).kept w1 k2
    have hS2' : SetB (fun b => (H.next ≤ b ∧ b ≠ p7) ∧ b < H2.next) H2 (.agg #[.int .i64 (n : Nat), sl2]) (setB B v true) := (hS2.lt w2).mono fun b hb => ⟨by rcases hb.1 with h | h <;> omega, hb.2⟩
    have cvb : H2.cells pv = some cs := cells_kept w1 k2 (cells_kept w' k1 cv)
    have hpvlt : pv < H2.next := cells_lt w2 cvb
    simp (disch := omega) [-getElem?_pos, if_pos, if_neg, decide_eq_true, decide_eq_false, writeA, cut]
    generalize hH3 : H2.alloc (.row [.int .i64 (n : Nat), sl2] T_bitset_Set true) = H3
    have k3 : Keep [] H2 H3 := by rw [← hH3]; exact .alloc
    have w3 : WF H3 := by rw [← hH3]; exact w2.alloc
    have hn3 : H3.next = H2.next + 1 := by rw [← hH3]; simp
    have d14 : H3.blk H2.next = some (.row [.int .i64 (n : Nat), sl2] T_bitset_Set true) := by rw [← hH3]; simp
    have d7c : H3.blk p7 = some (.row [.int .i64 (n : Nat), sl] T_bitset_Set true) := by rw [k3.blk _ (by omega) (by simp), d7b]
    have hSc := (hSb.lt w2).kept w2 k3
    have hTc := (hTb.lt w2).kept w2 k3
    have hS3 := hS2'.kept w2 k3
    have k03 : Keep [] H H3 := k'.trans' (k1.trans' (k2.trans' k3))
    have cvc : H3.cells pv = some cs := cells_kept w2 k3 cvb
    have hSA : SetB (fun b => H.next ≤ b ∧ b ≠ p7) H3 (.agg #[.int .i64 (n : Nat), sl2]) (setB B v true) := hS3.mono fun b hb => hb.1
    obtain ⟨ao, co, rfl⟩ := ho.slice
    by_cases hin : i < no
    · obtain ⟨bo, offo, capo, cso, hslo, p1, p2, p3, p4, p5⟩ := (ho.kept hw k03).at (by omega)
      cases hslo
      have hbit : cso[offo + i]? = some (.bool (outs[i]'(by omega))) := by rw [p4 i (by omega), List.getElem?_map, List.getElem?_eq_getElem (by omega)]; rfl
      cases hx : outs[i]'(by omega) with
      | false =>
        rw [hx] at hbit
        simp (disch := omega) [-getElem?_pos, if_pos, if_neg, decide_eq_true, decide_eq_false, e2, e7, e8, e9, hin, p2, hbit]
        refine (RefWith_spec (hTc) v true).mono' fun u5 H5 w5 ⟨hT5, k5⟩ => ?_
        have hn5 := k5.next
        have d14e : H5.blk H2.next = some (.row [.int .i64 (n : Nat), sl2] T_bitset_Set true) := by rw [k5.blk _ (by omega) (by simp), d14]
        have d7e : H5.blk p7 = some (.row [.int .i64 (n : Nat), sl] T_bitset_Set true) := by rw [k5.blk _ (by omega) (by simp), d7c]
        have cv5 := cells_kept w3 k5 cvc
        have hSu5 := (hSA).kept w3 k5
        have hS5 := (hSc).kept w3 k5
        have k05 := (k03).trans' k5
        have hlen5 := setB_length B v true
        simp (disch := omega) [-getElem?_pos, if_pos, if_neg, decide_eq_true, decide_eq_false, e7, AH.cells_of d14e, cut]
        refine AFn.pure (same_spec (hg.kept hw k05) hSu5 hT5) ?_
        simp (disch := omega) [-getElem?_pos, if_pos, if_neg, decide_eq_true, decide_eq_false, e7, AH.cells_of d7e, cut]
        refine (List_spec (hg.kept hw k05) hS5).mono' fun u6 H6 w6 ⟨S6, o6, k6, hS6⟩ => ?_
        obtain ⟨a6, c6, rfl⟩ := o6.slice
        have hn6 := k6.next
        have d14f : H6.blk H2.next = some (.row [.int .i64 (n : Nat), sl2] T_bitset_Set true) := by rw [k6.blk _ (by omega) (by simp), d14e]
        have d7f : H6.blk p7 = some (.row [.int .i64 (n : Nat), sl] T_bitset_Set true) := by rw [k6.blk _ (by omega) (by simp), d7e]
        have cv6 := cells_kept w5 k6 cv5
        have hSu6 := hSu5.kept w5 k6
        have hT6 := hT5.kept w5 k6
        have k06 := k05.trans' k6
        simp (disch := omega) [-getElem?_pos, if_pos, if_neg, decide_eq_true, decide_eq_false, AH.cells_of d14f, cut]
        refine AFn.pure (Has_spec hSu6 v) ?_
        simp (disch := omega) [-getElem?_pos, if_pos, if_neg, decide_eq_true, decide_eq_false, ]
        refine AFn.pure (RefHas_spec hT6 v) ?_
        simp (disch := omega) [-getElem?_pos, if_pos, if_neg, decide_eq_true, decide_eq_false, AH.cells_of d14f, cut]
        obtain ⟨r, hr⟩ := next_ex (setB B v true) v.toNat
        refine AFn.pure (Next_spec (hg.kept hw k06) hSu6 v r hr) ?_
        simp (disch := omega) [-getElem?_pos, if_pos, if_neg, decide_eq_true, decide_eq_false, ]
        refine AFn.pure (RefNext_spec hT6 v r hr) ?_
        simp (disch := omega) [-getElem?_pos, if_pos, if_neg, decide_eq_true, decide_eq_false, e7, e38, AH.cells_of d14f, d7f, writeA, cut, IntWalk.i64_in]
        refine ⟨hj2, ⟨w6.set (by omega), .new_set hp7 k06, hp7, by simp; omega, by simp [e2], by simp [e7], by simp [e25], by simp [e26], by simp [e27]⟩, ⟨sl2, u5, setB B v true, by omega, by simp, by simp, hSu6.over fun b hb => AH.cells_set_ne hb.2, (hT6.over fun b hb => AH.cells_set_ne (by omega)).mono fun b hb => by have := (k03).next; omega⟩, hpv, hpv7, by rw [AH.cells_set_ne hpv7, cv6, hcs], by simp [e9], by simp [e36], by simp [e37], by simp⟩
      | true =>
        rw [hx] at hbit
        simp (disch := omega) [-getElem?_pos, if_pos, if_neg, decide_eq_true, decide_eq_false, e2, e7, e8, e9, hin, p2, hbit, AH.cells_of d7c, cut]
        refine (Without_spec hSc v).mono' fun u4 H4 w4 ⟨hS4, k4⟩ => ?_
        have hn4 := k4.next
        have hlen4 := setB_length B v false
        obtain ⟨sl4, rfl, v4, v5⟩ := id hS4
        rw [hlen4, hB] at hS4
        simp only [hlen4, hB]
        have d14b : H4.blk H2.next = some (.row [.int .i64 (n : Nat), sl2] T_bitset_Set true) := by rw [k4.blk _ (by omega) (by simp), d14]
        simp (disch := omega) [-getElem?_pos, if_pos, if_neg, decide_eq_true, decide_eq_false, writeA, d14b]
        generalize hHc : H4.set H2.next (.row [.int .i64 (n : Nat), sl4] T_bitset_Set true) = Hc
        have wc : WF Hc := by rw [← hHc]; exact w4.set (by omega)
        have hnc : Hc.next = H4.next := by rw [← hHc]; rfl
        have hk0 := k'.next
        have kc : Keep [] H Hc := by rw [← hHc]; exact .new_set (by omega) (k03.trans' k4)
        have d14c : Hc.blk H2.next = some (.row [.int .i64 (n : Nat), sl4] T_bitset_Set true) := by rw [← hHc]; simp
        have d7d : Hc.blk p7 = some (.row [.int .i64 (n : Nat), sl] T_bitset_Set true) := by rw [← hHc, AH.set_blk_ne (by omega), k4.blk _ (by omega) (by simp), d7c]
        have cvd : Hc.cells pv = some cs := by rw [← hHc, AH.cells_set_ne (by omega)]; exact cells_kept w3 k4 cvc
        have hSC : SetB (fun b => H.next ≤ b ∧ b ≠ p7) Hc (.agg #[.int .i64 (n : Nat), sl4]) (setB B v false) := by
          rw [← hHc]
          refine (hS4.over fun b hb => AH.cells_set_ne ?_).mono fun b hb => ?_
          · rcases hb with hb | hb <;> omega
          · rcases hb with hb | hb <;> omega
        have hSd : SetB (fun b => (H.next ≤ b ∧ b ≠ p7) ∧ b < H2.next) Hc (.agg #[.int .i64 (n : Nat), sl]) B := by
          rw [← hHc]
          exact (hSc.kept w3 k4).over fun b hb => AH.cells_set_ne (by omega)
        have hTd : BoolsV (fun b => (H.next ≤ b ∧ b ≠ p7) ∧ b < H2.next) Hc tv B := by
          rw [← hHc]
          exact (hTc.kept w3 k4).over fun b hb => AH.cells_set_ne (by omega)
        simp (disch := omega) [-getElem?_pos, if_pos, if_neg, decide_eq_true, decide_eq_false, e8, e9]
        refine (RefWith_spec (hTd) v false).mono' fun u5 H5 w5 ⟨hT5, k5⟩ => ?_
        have hn5 := k5.next
        have d14e : H5.blk H2.next = some (.row [.int .i64 (n : Nat), sl4] T_bitset_Set true) := by rw [k5.blk _ (by omega) (by simp), d14c]
        have d7e : H5.blk p7 = some (.row [.int .i64 (n : Nat), sl] T_bitset_Set true) := by rw [k5.blk _ (by omega) (by simp), d7d]
        have cv5 := cells_kept wc k5 cvd
        have hSu5 := (hSC).kept wc k5
        have hS5 := (hSd).kept wc k5
        have k05 := (kc).trans' k5
        have hlen5 := setB_length B v false
        simp (disch := omega) [-getElem?_pos, if_pos, if_neg, decide_eq_true, decide_eq_false, e7, AH.cells_of d14e, cut]
        refine AFn.pure (same_spec (hg.kept hw k05) hSu5 hT5) ?_
        simp (disch := omega) [-getElem?_pos, if_pos, if_neg, decide_eq_true, decide_eq_false, e7, AH.cells_of d7e, cut]
        refine (List_spec (hg.kept hw k05) hS5).mono' fun u6 H6 w6 ⟨S6, o6, k6, hS6⟩ => ?_
        obtain ⟨a6, c6, rfl⟩ := o6.slice
        have hn6 := k6.next
        have d14f : H6.blk H2.next = some (.row [.int .i64 (n : Nat), sl4] T_bitset_Set true) := by rw [k6.blk _ (by omega) (by simp), d14e]
        have d7f : H6.blk p7 = some (.row [.int .i64 (n : Nat), sl] T_bitset_Set true) := by rw [k6.blk _ (by omega) (by simp), d7e]
        have cv6 := cells_kept w5 k6 cv5
        have hSu6 := hSu5.kept w5 k6
        have hT6 := hT5.kept w5 k6
        have k06 := k05.trans' k6
        simp (disch := omega) [-getElem?_pos, if_pos, if_neg, decide_eq_true, decide_eq_false, AH.cells_of d14f, cut]
        refine AFn.pure (Has_spec hSu6 v) ?_
        simp (disch := omega) [-getElem?_pos, if_pos, if_neg, decide_eq_true, decide_eq_false, ]
        refine AFn.pure (RefHas_spec hT6 v) ?_
        simp (disch := omega) [-getElem?_pos, if_pos, if_neg, decide_eq_true, decide_eq_false, AH.cells_of d14f, cut]
        obtain ⟨r, hr⟩ := next_ex (setB B v false) v.toNat
        refine AFn.pure (Next_spec (hg.kept hw k06) hSu6 v r hr) ?_
        simp (disch := omega) [-getElem?_pos, if_pos, if_neg, decide_eq_true, decide_eq_false, ]
        refine AFn.pure (RefNext_spec hT6 v r hr) ?_
        simp (disch := omega) [-getElem?_pos, if_pos, if_neg, decide_eq_true, decide_eq_false, e7, e38, AH.cells_of d14f, d7f, writeA, cut, IntWalk.i64_in]
        refine ⟨hj2, ⟨w6.set (by omega), .new_set hp7 k06, hp7, by simp; omega, by simp [e2], by simp [e7], by simp [e25], by simp [e26], by simp [e27]⟩, ⟨sl4, u5, setB B v false, by omega, by simp, by simp, hSu6.over fun b hb => AH.cells_set_ne hb.2, (hT6.over fun b hb => AH.cells_set_ne (by omega)).mono fun b hb => by have := (kc).next; omega⟩, hpv, hpv7, by rw [AH.cells_set_ne hpv7, cv6, hcs], by simp [e9], by simp [e36], by simp [e37], by simp⟩
    · simp (disch := omega) [-getElem?_pos, if_pos, if_neg, decide_eq_true, decide_eq_false, e2, e7, e8, e9, hin]
      refine (RefWith_spec (hTc) v true).mono' fun u5 H5 w5 ⟨hT5, k5⟩ => ?_
      have hn5 := k5.next
      have d14e : H5.blk H2.next = some (.row [.int .i64 (n : Nat), sl2] T_bitset_Set true) := by rw [k5.blk _ (by omega) (by simp), d14]
      have d7e : H5.blk p7 = some (.row [.int .i64 (n : Nat), sl] T_bitset_Set true) := by rw [k5.blk _ (by omega) (by simp), d7c]
      have cv5 := cells_kept w3 k5 cvc
      have hSu5 := (hSA).kept w3 k5
      have hS5 := (hSc).kept w3 k5
      have k05 := (k03).trans' k5
      have hlen5 := setB_length B v true
      simp (disch := omega) [-getElem?_pos, if_pos, if_neg, decide_eq_true, decide_eq_false, e7, AH.cells_of d14e, cut]
      refine AFn.pure (same_spec (hg.kept hw k05) hSu5 hT5) ?_
      simp (disch := omega) [-getElem?_pos, if_pos, if_neg, decide_eq_true, decide_eq_false, e7, AH.cells_of d7e, cut]
      refine (List_spec (hg.kept hw k05) hS5).mono' fun u6 H6 w6 ⟨S6, o6, k6, hS6⟩ => ?_
      obtain ⟨a6, c6, rfl⟩ := o6.slice
      have hn6 := k6.next
      have d14f : H6.blk H2.next = some (.row [.int .i64 (n : Nat), sl2] T_bitset_Set true) := by rw [k6.blk _ (by omega) (by simp), d14e]
      have d7f : H6.blk p7 = some (.row [.int .i64 (n : Nat), sl] T_bitset_Set true) := by rw [k6.blk _ (by omega) (by simp), d7e]
      have cv6 := cells_kept w5 k6 cv5
      have hSu6 := hSu5.kept w5 k6
      have hT6 := hT5.kept w5 k6
      have k06 := k05.trans' k6
      simp (disch := omega) [-getElem?_pos, if_pos, if_neg, decide_eq_true, decide_eq_false, AH.cells_of d14f, cut]
      refine AFn.pure (Has_spec hSu6 v) ?_
      simp (disch := omega) [-getElem?_pos, if_pos, if_neg, decide_eq_true, decide_eq_false, ]
      refine AFn.pure (RefHas_spec hT6 v) ?_
      simp (disch := omega) [-getElem?_pos, if_pos, if_neg, decide_eq_true, decide_eq_false, AH.cells_of d14f, cut]
      obtain ⟨r, hr⟩ := next_ex (setB B v true) v.toNat
      refine AFn.pure (Next_spec (hg.kept hw k06) hSu6 v r hr) ?_
      simp (disch := omega) [-getElem?_pos, if_pos, if_neg, decide_eq_true, decide_eq_false, ]
      refine AFn.pure (RefNext_spec hT6 v r hr) ?_
      simp (disch := omega) [-getElem?_pos, if_pos, if_neg, decide_eq_true, decide_eq_false, e7, e38, AH.cells_of d14f, d7f, writeA, cut, IntWalk.i64_in]
      refine ⟨hj2, ⟨w6.set (by omega), .new_set hp7 k06, hp7, by simp; omega, by simp [e2], by simp [e7], by simp [e25], by simp [e26], by simp [e27]⟩, ⟨sl2, u5, setB B v true, by omega, by simp, by simp, hSu6.over fun b hb => AH.cells_set_ne hb.2, (hT6.over fun b hb => AH.cells_set_ne (by omega)).mono fun b hb => by have := (k03).next; omega⟩, hpv, hpv7, by rw [AH.cells_set_ne hpv7, cv6, hcs], by simp [e9], by simp [e36], by simp [e37], by simp⟩
  · simp (disch := omega) [-getElem?_pos, if_pos, if_neg, decide_eq_true, decide_eq_false, ir_law03_BitsetHolds_l0, e37, e38]
    exact ⟨⟨w', k', hp7, hp7', e2, e7, e25, e26, e27⟩, sl, tv, B, hB, e8, d7, hS, hT⟩
theorem HoldsS.alloc {H H' : AH} {p7 n : Nat} {env env' : Env} {B : Blk} (h : HoldsS H p7 n env H') (hw : WF H') (he : env' 8 = env 8) : HoldsS H p7 n env' (H'.alloc B) := by
  obtain ⟨sl, tv, C, h1, h2, h3, h4, h5⟩ := h
  exact ⟨sl, tv, C, h1, by rw [he, h2], by rw [AH.alloc_blk_ne (hw.ne h3), h3], h4.kept hw .alloc, h5.kept hw .alloc⟩
theorem holds_l1 {env : Env} {H H' : AH} {p7 n m no : Nat} {lv ov : Value} {l : List Int} {outs : List Bool} (hg : GroundA G H) (hw : WF H) (ho : Rd H 1 ov no (outs.map .bool)) (hl : Rd H 1 lv m (l.map (.int .i64))) (hn : n < 200) (hm : m ≤ 60) (h : HoldsE H p7 lv ov m 0 env H') (hs : HoldsS H p7 n env H') :
    wpC Tryd.prog 98 (.loop ir_law03_BitsetHolds_l1) (fun e env H' => e = .exit 0 ∧ WF H' ∧ Keep [] H H') env H' := by
  have hll : l.length = m := by have := hl.len; simpa using this
  refine loop_upto m (fun i env H' => HoldsE H p7 lv ov m i env H' ∧ HoldsS H p7 n env H') ⟨h, hs⟩ ?_
  rintro i env H' hi ⟨hE, hS⟩
  have hE' := hE
  obtain ⟨w', k', hp7, hp7', e2, e7, e25, e26, e27⟩ := hE
  by_cases him : i < m
  · obtain ⟨b, off, cap, cs, rfl, q1, q2, q3, q4, q5⟩ := (hl.kept hw k').at (by omega)
    have hx : cs[off + i]? = some (.int .i64 (l[i]'(by omega))) := by rw [q4 i (by omega), List.getElem?_map, List.getElem?_eq_getElem (by omega)]; rfl
    generalize l[i]'(by omega) = x at hx
    obtain ⟨y, hy⟩ : ∃ y, (if x > 0 then x else 0).tmod 200 = y := ⟨_, rfl⟩
    simp (disch := omega) [-getElem?_pos, if_pos, if_neg, decide_eq_true, decide_eq_false, ir_law03_BitsetHolds_l1, e25, e26, e27, q2, hx, hy]
    generalize hE2 : (upd _ 38 (.int .i64 0) : Env) = env2
    have f : ∀ t, t ≠ 28 → t ≠ 29 → t ≠ 30 → t ≠ 31 → t ≠ 9 → t ≠ 10 → t ≠ 32 → t ≠ 33 → t ≠ 34 → t ≠ 35 → t ≠ 36 → t ≠ 37 → t ≠ 38 → env2 t = env t := by
      intro t h1 h2 h3 h4 h5 h6 h7 h8 h9 h10 h11 h12 h13
      rw [← hE2]
      simp [h1, h2, h3, h4, h5, h6, h7, h8, h9, h10, h11, h12, h13]
    have hJ : HoldsJ H p7 H'.next n (.slice (some ⟨b, off, none⟩) m cap) ov m i x y 0 env2 (H'.alloc (.row [.int .i64 x, .int .i64 y] T_int true)) := by
      refine ⟨⟨w'.alloc, .new_alloc k', hp7, by simp; omega, by rw [f 2 (by omega) (by omega) (by omega) (by omega) (by omega) (by omega) (by omega) (by omega) (by omega) (by omega) (by omega) (by omega) (by omega), e2],
        by rw [f 7 (by omega) (by omega) (by omega) (by omega) (by omega) (by omega) (by omega) (by omega) (by omega) (by omega) (by omega) (by omega) (by omega), e7], by rw [f 25 (by omega) (by omega) (by omega) (by omega) (by omega) (by omega) (by omega) (by omega) (by omega) (by omega) (by omega) (by omega) (by omega), e25],
        by rw [f 26 (by omega) (by omega) (by omega) (by omega) (by omega) (by omega) (by omega) (by omega) (by omega) (by omega) (by omega) (by omega) (by omega), e26], by rw [f 27 (by omega) (by omega) (by omega) (by omega) (by omega) (by omega) (by omega) (by omega) (by omega) (by omega) (by omega) (by omega) (by omega), e27]⟩,
        hS.alloc w' (f 8 (by omega) (by omega) (by omega) (by omega) (by omega) (by omega) (by omega) (by omega) (by omega) (by omega) (by omega) (by omega) (by omega)), k'.next, by omega, by simp, by rw [← hE2]; simp, by rw [← hE2]; simp, by rw [← hE2]; simp, by rw [← hE2]; simp⟩
    clear f hE2
    refine wpC_use (holds_l0 hg hw ho hn (by omega) hJ) fun e env3 H3 ⟨he, hE3, hS3⟩ _ => ?_
    subst he
    have hE3' := hE3
    obtain ⟨w3, k3, _, _, g2, g7, g25, g26, g27⟩ := hE3
    simp (disch := omega) [-getElem?_pos, if_pos, if_neg, decide_eq_true, decide_eq_false, g27, IntWalk.i64_in]
    refine ⟨him, ⟨w3, k3, hp7, by assumption, by simp [g2], by simp [g7], by simp [g25], by simp [g26], by simp⟩, ?_⟩
    obtain ⟨sl, tv, C, h1, h2, h3, h4, h5⟩ := hS3
    exact ⟨sl, tv, C, h1, by simp [h2], h3, h4, h5⟩
  · simp (disch := omega) [-getElem?_pos, if_pos, if_neg, decide_eq_true, decide_eq_false, ir_law03_BitsetHolds_l1, e26, e27]
    exact ⟨w', k'⟩
theorem Holds_spec {H : AH} (hg : GroundA G H) {size : Int} {lv ov : Value} {m no : Nat} {l : List Int} {outs : List Bool} (hs : -9223372036854775808 ≤ size ∧ size ≤ 9223372036854775807) (hl : Rd H 1 lv m (l.map (.int .i64))) (hm : m ≤ 9223372036854775807) (ho : Rd H 1 ov no (outs.map .bool)) :
    AFn Tryd.prog F_law03_BitsetHolds [.int .i64 size, lv, ov] H fun u H' => u = .bool true ∧ Keep [] H H' := by
  refine AFn.enter mixed ir_law03_BitsetHolds_eq (by simp [ir_law03_BitsetHolds]) fun hw => ?_
  simp (disch := omega) [-getElem?_pos, if_pos, if_neg, decide_eq_true, decide_eq_false, ir_law03_BitsetHolds]
  refine (made_spec (l := []) hs .nil (by omega)).mono' fun u H1 w1 ⟨sv, tv, B, hu, hB, hS, hT, k1⟩ => ?_
  subst hu
  have hn : size.toNat % 200 < 200 := by omega
  generalize size.toNat % 200 = n at *
  subst hB
  obtain ⟨sl, rfl, v1, v2⟩ := id hS
  have hn1 := k1.next
  simp (disch := omega) [-getElem?_pos, if_pos, if_neg, decide_eq_true, decide_eq_false, writeA]
  generalize hH2 : H1.alloc (.row [.int .i64 B.length, sl] T_bitset_Set true) = H2
  have w2 : WF H2 := by rw [← hH2]; exact w1.alloc
  have k2 : Keep [] H H2 := by rw [← hH2]; exact .new_alloc k1
  have hn2 : H2.next = H1.next + 1 := by rw [← hH2]; simp
  have hS2 : SetB (fun b => H.next ≤ b ∧ b ≠ H1.next) H2 (.agg #[.int .i64 B.length, sl]) B := by rw [← hH2]; exact ((hS.lt w1).kept w1 .alloc).mono fun b hb => by omega
  have hT2 : BoolsV (fun b => H.next ≤ b ∧ b ≠ H1.next) H2 tv B := by rw [← hH2]; exact ((hT.lt w1).kept w1 .alloc).mono fun b hb => by omega
  have hd : H2.blk H1.next = some (.row [.int .i64 B.length, sl] T_bitset_Set true) := by rw [← hH2]; simp
  have main : ∀ (lv' : Value) (m' : Nat) (l' : List Int), Rd H 1 lv' m' (l'.map (.int .i64)) → m' ≤ 60 → ∀ env, env 2 = some ov → env 7 = some (.pointer (some ⟨H1.next, 0, none⟩)) → env 8 = some tv → env 25 = some lv' → env 26 = some (.int .i64 (m' : Nat)) → env 27 = some (.int .i64 0) →
      wpC Tryd.prog 98 (.loop ir_law03_BitsetHolds_l1) (blockK 0 (nextK Tryd.prog 98 ((ACode.region [⟨some 97, .call (.func F_law03_wakes) [], none⟩, ⟨some 6, .mv (.tmp 97), none⟩] false).seq .ret) (bodyK [ARes.tmp 6] fun u H' => u = .bool true ∧ Keep [] H H'))) env H2 := by
    intro lv' m' l' hl' hm' env q2 q7 q8 q25 q26 q27
    refine wpC_use (holds_l1 hg hw ho hl' hn hm' ⟨w2, k2, hn1, by omega, q2, q7, q25, q26, q27⟩ ⟨sl, tv, B, rfl, q8, hd, hS2, hT2⟩) fun e env2 H5 ⟨he, w5, k5⟩ _ => ?_
    subst he
    simp (disch := omega) [-getElem?_pos, if_pos, if_neg, decide_eq_true, decide_eq_false, ]
    refine AFn.pure (wakes_spec (hg.kept hw k5)) ?_
    simp (disch := omega) [-getElem?_pos, if_pos, if_neg, decide_eq_true, decide_eq_false, ]
    exact k5
  clear hS2 hT2 hd hH2
  rcases hl with ⟨rfl, rfl, hc⟩ | ⟨rfl, rfl, hc⟩ | ⟨b, off, cap, cs, rfl, q1, q2, q3⟩
  · simp (disch := omega) [-getElem?_pos, if_pos, if_neg, decide_eq_true, decide_eq_false, ]
    exact main _ 0 [] .nil (by omega) _ (by simp) (by simp) (by simp) (by simp) (by simp) (by simp)
  · simp (disch := omega) [-getElem?_pos, if_pos, if_neg, decide_eq_true, decide_eq_false, ]
    exact main _ 0 [] (.inr (.inl ⟨rfl, rfl, rfl⟩)) (by omega) _ (by simp) (by simp) (by simp) (by simp) (by simp) (by simp)
  · obtain ⟨mn, hmn⟩ : ∃ mn : Nat, mn = min m 60 := ⟨_, rfl⟩
    have hmn1 : mn ≤ m ∧ mn ≤ 60 := by omega
    have hif : (if (60 : Int) < m then (60 : Int) else m) = mn := by split <;> omega
    have hrd2 : Rd H 1 (.slice (some ⟨b, off, none⟩) mn cap) mn ((l.take mn).map (.int .i64)) := by
      rw [List.map_take]
      have := Rd.first (.inr (.inr ⟨b, off, cap, cs, rfl, q1, q2, q3⟩)) hmn1.1
      rw [Nat.mul_one] at this
      exact this
    simp (disch := omega) [-getElem?_pos, if_pos, if_neg, decide_eq_true, decide_eq_false, hif]
    exact main _ mn (l.take mn) hrd2 hmn1.2 _ (by simp) (by simp) (by simp) (by simp) (by simp) (by simp)
end Go.Proofs.YtakdkbdjjlmccaaDoor
