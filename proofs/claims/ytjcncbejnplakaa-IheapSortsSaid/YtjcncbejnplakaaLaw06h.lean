/-
  IheapPlays (2): what one act does.
-/
import Derived.Test.YtjcncbejnplakaaLaw06g
set_option maxRecDepth 100000
set_option linter.unusedSimpArgs false
set_option linter.unusedVariables false
namespace Go.Proofs.Ytjcncbejnplakaa
open Go Go.Abs

theorem rest_min {L : List Ent} (h : StL L) : restE (sortL Ent.lt L) false = sortL Ent.lt (popL 0 L) := by
  unfold restE
  rw [if_neg (by simp)]
  by_cases h0 : L.length = 0
  · obtain rfl := List.length_eq_zero_iff.1 h0; rfl
  · rw [srt_min h (by omega), List.tail_cons]
theorem rest_max {L : List Ent} (h : StL L) : restE (sortL Ent.lt L) true = sortL Ent.lt (popL 1 L) := by
  unfold restE
  rw [if_pos rfl]
  by_cases h0 : L.length = 0
  · obtain rfl := List.length_eq_zero_iff.1 h0; rfl
  · rw [srt_max h (by omega), List.dropLast_concat]
theorem end_min {L : List Ent} (h : StL L) : endE (sortL Ent.lt L) false = tipO L 0 := by rw [tip_min h]; rfl
theorem end_max {L : List Ent} (h : StL L) : endE (sortL Ent.lt L) true = tipO L 1 := by rw [tip_max h]; rfl
theorem tip_is (L : List Ent) (e : Nat) : (tipO L e).isSome = decide (0 < L.length) := by
  unfold tipO
  by_cases h0 : L.length = 0
  · obtain rfl := List.length_eq_zero_iff.1 h0; rfl
  · rw [List.getElem?_eq_getElem (atN_lt (by omega))]; simp; omega
theorem pop_le (L : List Ent) (e : Nat) : (popL e L).length ≤ L.length := by
  by_cases h0 : L.length = 0
  · unfold popL; rw [if_pos h0]; exact Nat.le_refl _
  · rw [pop_length (by omega)]; omega
theorem push_sort {L : List Ent} (x : Ent) : insL Ent.lt (sortL Ent.lt L) x = sortL Ent.lt (pushL L x) := by
  rw [insL_sortL isOrd]
  exact sortL_eq isOrd (pushL_perm L x).symm

def PlQ (H0 : AH) (n0 q : Nat) (L : List Ent) (x : Ent) (z : Int) (e : AExit) (env : Env) (H' : AH) : Prop :=
  e = .normal ∧ ∃ L' mv' y ok, env 6 = some mv' ∧ env 12 = some (.bool ok) ∧ env 14 = some (.bool ok) ∧ StR H0 n0 H' q L' mv' (sortL Ent.lt L') ∧ StL L' ∧ L'.length ≤ L.length + 1 ∧
    H'.cells n0 = some [.int .i64 z, .int .i64 x.b, .int .i64 x.d, .int .i64 x.s, .int .i64 x.i] ∧ H'.cells (n0 + 1) = some (Ent.cells y) ∧ H'.cells (n0 + 2) = some (Ent.cells y)

abbrev ref5B : Blk := .row [.int .i64 0, .int .i64 0, .int .i64 0, .int .i64 0] T_secateurref05_Entry true

theorem Three.cells {n0 : Nat} {H H' : AH} (h : Three n0 H H') {b : Nat} (hb : n0 ≤ b) (hb2 : b < n0 + 3) : H'.cells b = H.cells b := by unfold AH.cells; rw [h b hb hb2]

theorem plays_b4 {H0 H : AH} {q n0 : Nat} {L : List Ent} {mv : Value} (hS : StR H0 n0 H q L mv (sortL Ent.lt L)) (hL : StL L) (hl : L.length < 10000) {d : Nat} (hd : d < 5) (x : Ent) (z : Int)
    (b0 : H.cells n0 = some [.int .i64 z, .int .i64 x.b, .int .i64 x.d, .int .i64 x.s, .int .i64 x.i]) (b1 : H.blk (n0 + 1) = some zeroB) (b2 : H.blk (n0 + 2) = some ref5B)
    {env : Env} (e5 : env 5 = some (.pointer (some ⟨q, 0, none⟩))) (e6 : env 6 = some mv) (e10 : env 10 = some (.pointer (some ⟨n0, 0, none⟩))) (e11 : env 11 = some (.pointer (some ⟨n0 + 1, 0, none⟩))) (e12 : env 12 = some (.bool false)) (e13 : env 13 = some (.pointer (some ⟨n0 + 2, 0, none⟩)))
    (e14 : env 14 = some (.bool (decide (0 < L.length)))) (e56 : env 56 = some (.int .i64 d)) : wpC Try.prog 146 ir_law06_IheapPlays_b4 (PlQ H0 n0 q L x z) env H := by
  have hc1 : cut [Value.int .i64 z, .int .i64 x.b, .int .i64 x.d, .int .i64 x.s, .int .i64 x.i] 1 4 = some [.int .i64 x.b, .int .i64 x.d, .int .i64 x.s, .int .i64 x.i] := rfl
  have hMl : (sortL Ent.lt L).length = L.length := sort_length L
  have hd5 : d = 0 ∨ d = 1 ∨ d = 2 ∨ d = 3 ∨ d = 4 := by omega
  rcases hd5 with rfl | rfl | rfl | rfl | rfl
  · simp (disch := omega) [-getElem?_pos, if_pos, if_neg, decide_eq_true, decide_eq_false, ir_law06_IheapPlays_b4, e5, e6, e10, e56, b0, hc1]
    refine AFn.pure (of6_spec x) ?_
    simp (disch := omega) [-getElem?_pos, if_pos, if_neg, decide_eq_true, decide_eq_false, e5, e6, e10, b0]
    refine (hS.push x (by omega)).mono' fun u H5 w5 ⟨hS5, t5⟩ => ?_
    have b05 := (t5.cells (Nat.le_refl _) (by omega)).trans b0
    simp (disch := omega) [-getElem?_pos, if_pos, if_neg, decide_eq_true, decide_eq_false, e5, e6, e10, b05, hc1]
    refine (hS5.refPush x (by omega)).mono' fun u H6 w6 ⟨hS6, t6⟩ => ?_
    have b06 := (t6.cells (Nat.le_refl _) (by omega)).trans b05
    have b16 : H6.blk (n0 + 1) = some zeroB := by rw [t6 _ (by omega) (by omega), t5 _ (by omega) (by omega), b1]
    have b26 : H6.blk (n0 + 2) = some ref5B := by rw [t6 _ (by omega) (by omega), t5 _ (by omega) (by omega), b2]
    rw [push_sort] at hS6
    simp (disch := omega) [-getElem?_pos, if_pos, if_neg, decide_eq_true, decide_eq_false, e12]
    exact ⟨rfl, _, u, zeroE, false, by simp, by simp [e12], by simp, hS6, pushL_st hL x, by rw [riseL_len2]; omega, b06, AH.cells_of b16, AH.cells_of b26⟩
  · have hE := end_min hL
    have hR := rest_min hL
    have hi := tip_is L 0
    have hst := pop_st0 hL
    have hle := pop_le L 0
    simp (disch := omega) [-getElem?_pos, if_pos, if_neg, decide_eq_true, decide_eq_false, ir_law06_IheapPlays_b4, e5, e6, e10, e56]
    refine hS.popMin.mono' fun u H5 w5 ⟨hu, hS5, t5⟩ => ?_
    subst hu
    have b05 := (t5.cells (Nat.le_refl _) (by omega)).trans b0
    have b15 : H5.blk (n0 + 1) = some zeroB := by rw [t5 _ (by omega) (by omega), b1]
    have b25 : H5.blk (n0 + 2) = some ref5B := by rw [t5 _ (by omega) (by omega), b2]
    obtain ⟨y, hy, hyv⟩ : ∃ y : Ent, (tipO L 0).getD zeroE = y ∧ tellV (tipO L 0) = .tuple #[y.val, .bool (decide (0 < L.length))] := ⟨_, rfl, by rw [← hi]; cases tipO L 0 <;> rfl⟩
    rw [hyv]
    simp (disch := omega) [-getElem?_pos, if_pos, if_neg, decide_eq_true, decide_eq_false, e6, e11, e13, writeA_row b15, over]
    refine ((hS5.write (x := n0 + 1) (by omega) (by omega)).refPop false).mono' fun u H6 w6 ⟨w, hu, hS6, t6⟩ => ?_
    subst hu
    rw [hR] at hS6
    rw [hE, hy]
    have b06 : H6.cells n0 = _ := (t6.cells (Nat.le_refl _) (by omega)).trans ((AH.cells_set_ne (by omega)).trans b05)
    have b16 : H6.cells (n0 + 1) = _ := (t6.cells (by omega) (by omega)).trans AH.cells_set_same
    have b26 : H6.blk (n0 + 2) = some ref5B := by rw [t6 _ (by omega) (by omega), AH.set_blk_ne (by omega), b25]
    simp (disch := omega) [-getElem?_pos, if_pos, if_neg, decide_eq_true, decide_eq_false, e13, e14, writeA_row b26, over]
    exact ⟨rfl, _, w, y, decide (0 < L.length), by simp, by simp, by simp [e14], hS6.write (by omega) (by omega), hst, by omega, by rw [AH.cells_set_ne (by omega)]; exact b06, by rw [AH.cells_set_ne (by omega)]; exact b16, AH.cells_set_same⟩
  · have hE := end_max hL
    have hR := rest_max hL
    have hi := tip_is L 1
    have hst := pop_st1 hL
    have hle := pop_le L 1
    simp (disch := omega) [-getElem?_pos, if_pos, if_neg, decide_eq_true, decide_eq_false, ir_law06_IheapPlays_b4, e5, e6, e10, e56]
    refine hS.popMax.mono' fun u H5 w5 ⟨hu, hS5, t5⟩ => ?_
    subst hu
    have b05 := (t5.cells (Nat.le_refl _) (by omega)).trans b0
    have b15 : H5.blk (n0 + 1) = some zeroB := by rw [t5 _ (by omega) (by omega), b1]
    have b25 : H5.blk (n0 + 2) = some ref5B := by rw [t5 _ (by omega) (by omega), b2]
    obtain ⟨y, hy, hyv⟩ : ∃ y : Ent, (tipO L 1).getD zeroE = y ∧ tellV (tipO L 1) = .tuple #[y.val, .bool (decide (0 < L.length))] := ⟨_, rfl, by rw [← hi]; cases tipO L 1 <;> rfl⟩
    rw [hyv]
    simp (disch := omega) [-getElem?_pos, if_pos, if_neg, decide_eq_true, decide_eq_false, e6, e11, e13, writeA_row b15, over]
    refine ((hS5.write (x := n0 + 1) (by omega) (by omega)).refPop true).mono' fun u H6 w6 ⟨w, hu, hS6, t6⟩ => ?_
    subst hu
    rw [hR] at hS6
    rw [hE, hy]
    have b06 : H6.cells n0 = _ := (t6.cells (Nat.le_refl _) (by omega)).trans ((AH.cells_set_ne (by omega)).trans b05)
    have b16 : H6.cells (n0 + 1) = _ := (t6.cells (by omega) (by omega)).trans AH.cells_set_same
    have b26 : H6.blk (n0 + 2) = some ref5B := by rw [t6 _ (by omega) (by omega), AH.set_blk_ne (by omega), b25]
    simp (disch := omega) [-getElem?_pos, if_pos, if_neg, decide_eq_true, decide_eq_false, e13, e14, writeA_row b26, over]
    exact ⟨rfl, _, w, y, decide (0 < L.length), by simp, by simp, by simp [e14], hS6.write (by omega) (by omega), hst, by omega, by rw [AH.cells_set_ne (by omega)]; exact b06, by rw [AH.cells_set_ne (by omega)]; exact b16, AH.cells_set_same⟩
  · have hE := end_min hL
    have hi := tip_is L 0
    simp (disch := omega) [-getElem?_pos, if_pos, if_neg, decide_eq_true, decide_eq_false, ir_law06_IheapPlays_b4, e5, e6, e10, e56]
    refine hS.min.mono' fun u H5 w5 ⟨hu, hS5, t5⟩ => ?_
    subst hu
    have b05 := (t5.cells (Nat.le_refl _) (by omega)).trans b0
    have b15 : H5.blk (n0 + 1) = some zeroB := by rw [t5 _ (by omega) (by omega), b1]
    have b25 : H5.blk (n0 + 2) = some ref5B := by rw [t5 _ (by omega) (by omega), b2]
    obtain ⟨y, hy, hyv⟩ : ∃ y : Ent, (tipO L 0).getD zeroE = y ∧ tellV (tipO L 0) = .tuple #[y.val, .bool (decide (0 < L.length))] := ⟨_, rfl, by rw [← hi]; cases tipO L 0 <;> rfl⟩
    rw [hyv]
    simp (disch := omega) [-getElem?_pos, if_pos, if_neg, decide_eq_true, decide_eq_false, e6, e11, e13, writeA_row b15, over]
    have hS6 := hS5.write (x := n0 + 1) (cs := [.int .i64 y.b, .int .i64 y.d, .int .i64 y.s, .int .i64 y.i]) (t := T_key_Entry) (by omega) (by omega)
    obtain ⟨P, hP⟩ := hS6.read.2
    refine (Pop5_spec hP false).mono' fun u H6 w6 ⟨hk, w, hu, _⟩ => ?_
    subst hu
    rw [hE, hy]
    obtain ⟨hS7, t6⟩ := hS6.kept w6 hk
    have b06 : H6.cells n0 = _ := (t6.cells (Nat.le_refl _) (by omega)).trans ((AH.cells_set_ne (by omega)).trans b05)
    have b16 : H6.cells (n0 + 1) = _ := (t6.cells (by omega) (by omega)).trans AH.cells_set_same
    have b26 : H6.blk (n0 + 2) = some ref5B := by rw [t6 _ (by omega) (by omega), AH.set_blk_ne (by omega), b25]
    simp (disch := omega) [-getElem?_pos, if_pos, if_neg, decide_eq_true, decide_eq_false, e6, e13, e14, writeA_row b26, over]
    exact ⟨rfl, _, mv, y, decide (0 < L.length), by simp [e6], by simp, by simp [e14], hS7.write (by omega) (by omega), hL, by omega, by rw [AH.cells_set_ne (by omega)]; exact b06, by rw [AH.cells_set_ne (by omega)]; exact b16, AH.cells_set_same⟩
  · have hE := end_max hL
    have hi := tip_is L 1
    simp (disch := omega) [-getElem?_pos, if_pos, if_neg, decide_eq_true, decide_eq_false, ir_law06_IheapPlays_b4, e5, e6, e10, e56]
    refine hS.max.mono' fun u H5 w5 ⟨hu, hS5, t5⟩ => ?_
    subst hu
    have b05 := (t5.cells (Nat.le_refl _) (by omega)).trans b0
    have b15 : H5.blk (n0 + 1) = some zeroB := by rw [t5 _ (by omega) (by omega), b1]
    have b25 : H5.blk (n0 + 2) = some ref5B := by rw [t5 _ (by omega) (by omega), b2]
    obtain ⟨y, hy, hyv⟩ : ∃ y : Ent, (tipO L 1).getD zeroE = y ∧ tellV (tipO L 1) = .tuple #[y.val, .bool (decide (0 < L.length))] := ⟨_, rfl, by rw [← hi]; cases tipO L 1 <;> rfl⟩
    rw [hyv]
    simp (disch := omega) [-getElem?_pos, if_pos, if_neg, decide_eq_true, decide_eq_false, e6, e11, e13, writeA_row b15, over]
    have hS6 := hS5.write (x := n0 + 1) (cs := [.int .i64 y.b, .int .i64 y.d, .int .i64 y.s, .int .i64 y.i]) (t := T_key_Entry) (by omega) (by omega)
    obtain ⟨P, hP⟩ := hS6.read.2
    refine (Pop5_spec hP true).mono' fun u H6 w6 ⟨hk, w, hu, _⟩ => ?_
    subst hu
    rw [hE, hy]
    obtain ⟨hS7, t6⟩ := hS6.kept w6 hk
    have b06 : H6.cells n0 = _ := (t6.cells (Nat.le_refl _) (by omega)).trans ((AH.cells_set_ne (by omega)).trans b05)
    have b16 : H6.cells (n0 + 1) = _ := (t6.cells (by omega) (by omega)).trans AH.cells_set_same
    have b26 : H6.blk (n0 + 2) = some ref5B := by rw [t6 _ (by omega) (by omega), AH.set_blk_ne (by omega), b25]
    simp (disch := omega) [-getElem?_pos, if_pos, if_neg, decide_eq_true, decide_eq_false, e6, e13, e14, writeA_row b26, over]
    exact ⟨rfl, _, mv, y, decide (0 < L.length), by simp [e6], by simp, by simp [e14], hS7.write (by omega) (by omega), hL, by omega, by rw [AH.cells_set_ne (by omega)]; exact b06, by rw [AH.cells_set_ne (by omega)]; exact b16, AH.cells_set_same⟩
end Go.Proofs.Ytjcncbejnplakaa
