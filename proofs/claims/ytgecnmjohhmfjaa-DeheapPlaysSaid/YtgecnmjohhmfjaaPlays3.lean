/-
  Law 7: does.
-/
import Derived.Test.YtgecnmjohhmfjaaPlays2
set_option maxRecDepth 100000
set_option linter.unusedSimpArgs false
set_option linter.unusedVariables false
namespace Go.Proofs.Ytgecnmjohhmfjaa
open Go Go.Abs
def PlS (H0 H : AH) (d : Nat) (k : Bool) (most : Int) (mv : Value) (M : List Ent) : Prop :=
  ∃ S, ∃ P : Nat → Prop, WF H ∧ Keep [] H0 H ∧ (∀ b ∈ S, H0.next ≤ b) ∧ DeH H d k most M S ∧ EntsV P H mv M ∧ ∀ b, P b → b ∉ S ∧ b < H.next
theorem PlS.kept {H0 H H' : AH} {d : Nat} {k : Bool} {most : Int} {mv : Value} {M : List Ent} (h : PlS H0 H d k most mv M) (hw : WF H') (hk : Keep [] H H') : PlS H0 H' d k most mv M := by
  obtain ⟨S, P, h1, h2, h3, h4, h5, h6⟩ := h
  have := hk.next
  exact ⟨S, P, hw, h2.trans' hk, h3, h4.kept h1 hk, h5.kept h1 hk, fun b hb => ⟨(h6 b hb).1, by have := (h6 b hb).2; omega⟩⟩
theorem PlS.wf {H0 H : AH} {d : Nat} {k : Bool} {most : Int} {mv : Value} {M : List Ent} (h : PlS H0 H d k most mv M) : WF H := by
  obtain ⟨S, P, h1, _⟩ := h; exact h1
theorem Keep.new_setS {S : List Nat} {H0 H : AH} {b : Nat} {B : Blk} (hb : H0.next ≤ b) (h : Keep S H0 H) : Keep S H0 (H.set b B) := ⟨h.next, fun c hc hs => by rw [AH.set_blk_ne (by omega)]; exact h.blk c hc hs⟩
abbrev actV (z : Int) (x : Ent) (n : Int) : Value := .agg #[.int .i64 z, .int .i64 x.b, .int .i64 x.d, .int .i64 x.s, .int .i64 x.i, .int .i64 n]
def DoP (H : AH) (d : Nat) (k : Bool) (most : Int) (S : List Nat) (u : Value) (H' : AH) : Prop :=
  ∃ mv' M' S', ∃ P' : Nat → Prop, u = .tuple #[mv', .bool true] ∧ DeH H' d k most M' S' ∧ EntsV P' H' mv' M' ∧ (∀ b, P' b → b ∉ S' ∧ b < H'.next) ∧ Keep S H H' ∧ (∀ b ∈ S', b ∈ S ∨ H.next ≤ b) ∧ Srt Ent.lt M'
theorem cut_ex (M : List Ent) (bd : Int) : ∃ j, j ≤ M.length ∧ (∀ i, i < j → (getE M i).b < bd) ∧ (j < M.length → bd ≤ (getE M j).b) := by
  induction M with
  | nil => exact ⟨0, by simp, by simp, by simp⟩
  | cons y M ih =>
    by_cases hy : bd ≤ y.b
    · exact ⟨0, by simp, by simp, fun _ => hy⟩
    · obtain ⟨j, h1, h2, h3⟩ := ih
      refine ⟨j + 1, by simp; omega, fun i hi => ?_, fun h => h3 (by simpa using h)⟩
      cases i with
      | zero => show y.b < bd; omega
      | succ i => exact h2 i (by omega)
theorem restE_srt {M : List Ent} (h : Srt Ent.lt M) (last : Bool) : Srt Ent.lt (restE M last) := by
  unfold restE Srt at *
  split
  · exact h.sublist (List.dropLast_sublist M)
  · exact h.sublist (List.tail_sublist M)
theorem endE_is (M : List Ent) (last : Bool) : (endE M last).isSome = decide (0 < M.length) := by
  unfold endE
  cases M with
  | nil => cases last <;> rfl
  | cons y M => cases last <;> simp
theorem tell_of (M : List Ent) (last : Bool) : ∃ y : Ent, (endE M last).getD zeroE = y ∧ tellV (endE M last) = .tuple #[y.val, .bool (decide (0 < M.length))] := ⟨_, rfl, by rw [← endE_is M last]; exact tellV_eq _⟩
theorem does_spec {H : AH} {d : Nat} {k : Bool} {most : Int} {mv : Value} {M : List Ent} {S : List Nat} {P : Nat → Prop} (hD : DeH H d k most M S) (hM : EntsV P H mv M) (hP : ∀ b, P b → b ∉ S ∧ b < H.next) (hmost : 0 ≤ most ∧ most ≤ 100) (hs : Srt Ent.lt M) (z : Int) (x : Ent) (n : Int) :
    AFn Try.prog F_law07_does [pV d, mv, actV z x n, .int .i64 most] H (DoP H d k most S) := by
  refine AFn.enter mixed ir_law07_does_eq (by simp [ir_law07_does]) fun hw => ?_
  have hMl := hM.2
  have hMm := hD.le
  obtain ⟨ma, mc, rfl⟩ := hM.1.slice
  obtain ⟨e, he, hez⟩ : ∃ e : Nat, e < 8 ∧ (if 0 < z then z else 0).tmod 8 = (e : Int) := by
    refine ⟨((if 0 < z then z else 0).tmod 8).toNat, ?_, ?_⟩
    · split
      · rw [Int.tmod_eq_emod_of_nonneg (by omega)]; omega
      · simp
    · split
      · rw [Int.tmod_eq_emod_of_nonneg (by omega)]; omega
      · simp
  have hez' : (if z > 0 then z else 0).tmod 8 = (e : Int) := hez
  obtain ⟨H1, hH1⟩ : ∃ H1, ((H.alloc (.row [.int .i64 z, .int .i64 x.b, .int .i64 x.d, .int .i64 x.s, .int .i64 x.i, .int .i64 n] T_secateurlaw07_Act true)).alloc (ent0 T_key_Entry)).alloc (ent0 T_secateurref05_Entry) = H1 := ⟨_, rfl⟩
  have k1 : Keep [] H H1 := hH1 ▸ .new_alloc (.new_alloc .alloc)
  have w1 : WF H1 := hH1 ▸ hw.alloc.alloc.alloc
  have n1 : H1.next = H.next + 3 := by rw [← hH1]; simp
  have c6 : H1.cells H.next = some [.int .i64 z, .int .i64 x.b, .int .i64 x.d, .int .i64 x.s, .int .i64 x.i, .int .i64 n] := by rw [← hH1]; simp; omega
  have b10 : H1.blk (H.next + 1) = some (ent0 T_key_Entry) := by rw [← hH1]; simp
  have b11 : H1.blk (H.next + 2) = some (ent0 T_secateurref05_Entry) := by rw [← hH1]; simp
  have hD1 := hD.kept hw k1
  have hM1 := hM.kept hw k1
  have hSl := hD.lt hw
  have hcx : cut [Value.int .i64 z, .int .i64 x.b, .int .i64 x.d, .int .i64 x.s, .int .i64 x.i, .int .i64 n] 1 4 = some [.int .i64 x.b, .int .i64 x.d, .int .i64 x.s, .int .i64 x.i] := rfl
  have hfar : ∀ {H2 : AH}, Keep S H1 H2 → ∀ b, H.next ≤ b → b < H1.next → H2.blk b = H1.blk b := fun {H2} k2 b h1 h2 => k2.blk b h2 fun h => by have := hSl b h; omega
  have hfarC : ∀ {H2 : AH}, Keep S H1 H2 → ∀ b, H.next ≤ b → b < H1.next → H2.cells b = H1.cells b := fun {H2} k2 b h1 h2 => by unfold AH.cells; rw [hfar k2 b h1 h2]
  have hview : ∀ {H2 : AH} {w : Value} {L : List Ent}, Keep S H1 H2 → EntsV P H1 w L → EntsV P H2 w L := fun {H2 w L} k2 h => h.over fun b hb => by
    unfold AH.cells; rw [k2.blk b (by have := (hP b hb).2; omega) (hP b hb).1]
  have kS : ∀ {H2 : AH}, Keep S H1 H2 → Keep S H H2 := fun {H2} k2 => (k1.mono fun b hb => by simp at hb).trans' k2
  simp (disch := omega) [-getElem?_pos, if_pos, if_neg, decide_eq_true, decide_eq_false, ir_law07_does, hez, hez']
  rw [show H.next + 1 + 1 = H.next + 2 by omega] at *
  rw [hH1]
  have he8 : e = 0 ∨ e = 1 ∨ e = 2 ∨ e = 3 ∨ e = 4 ∨ e = 5 ∨ e = 6 ∨ e = 7 := by omega
  rcases he8 with rfl | rfl | rfl | rfl | rfl | rfl | rfl | rfl
  · simp (disch := omega) [-getElem?_pos, if_pos, if_neg, decide_eq_true, decide_eq_false, c6, hcx]
    refine AFn.pure (of7_spec x) ?_
    simp (disch := omega) [-getElem?_pos, if_pos, if_neg, decide_eq_true, decide_eq_false, c6, hcx]
    refine (DPush_spec hD1 ⟨by omega, by omega⟩ x).mono' fun u H2 w2 hpush => ?_
    rcases hpush with ⟨hfull, rfl, S', hD2, k2, hS2⟩ | ⟨hfull, rfl, S', hD2, k2, hS2⟩
    · have hf := eq_true hfull
      simp (disch := omega) [-getElem?_pos, if_pos, if_neg, decide_eq_true, decide_eq_false, hf]
      exact ⟨_, M, S', fun b => P b, rfl, hD2, hview k2 hM1, fun b hb => ⟨fun h => (hS2 b h).elim (hP b hb).1 fun h => by have := (hP b hb).2; omega, by have := (hP b hb).2; have := k2.next; omega⟩, kS k2, fun b hb => (hS2 b hb).imp id fun h => by omega, hs⟩
    · have hf := eq_false hfull
      have c62 := (hfarC k2 H.next (by omega) (by omega)).trans c6
      simp (disch := omega) [-getElem?_pos, if_pos, if_neg, decide_eq_true, decide_eq_false, hf, c62, hcx]
      refine (Push5_spec (hview k2 hM1) x (by omega)).mono' fun u H3 w3 ⟨hN, k3⟩ => ?_
      have hlt := hD2.lt w2
      simp (disch := omega) [-getElem?_pos, if_pos, if_neg, decide_eq_true, decide_eq_false, ]
      refine ⟨u, insL Ent.lt M x, S', fun b => H2.next ≤ b ∧ b < H3.next, rfl, hD2.kept w2 k3, ⟨Vw.below hN.1 w3, hN.2⟩, fun b hb => ⟨fun h => by have := hlt b h; omega, hb.2⟩, kS (k2.trans' (k3.mono fun b hb => by simp at hb)), fun b hb => (hS2 b hb).imp id fun h => by omega, insL_srt isOrd hs x⟩
  · simp (disch := omega) [-getElem?_pos, if_pos, if_neg, decide_eq_true, decide_eq_false, c6, hcx]
    refine AFn.pure (of7_spec x) ?_
    simp (disch := omega) [-getElem?_pos, if_pos, if_neg, decide_eq_true, decide_eq_false, c6, hcx]
    refine (DPush_spec hD1 ⟨by omega, by omega⟩ x).mono' fun u H2 w2 hpush => ?_
    rcases hpush with ⟨hfull, rfl, S', hD2, k2, hS2⟩ | ⟨hfull, rfl, S', hD2, k2, hS2⟩
    · have hf := eq_true hfull
      simp (disch := omega) [-getElem?_pos, if_pos, if_neg, decide_eq_true, decide_eq_false, hf]
      exact ⟨_, M, S', fun b => P b, rfl, hD2, hview k2 hM1, fun b hb => ⟨fun h => (hS2 b h).elim (hP b hb).1 fun h => by have := (hP b hb).2; omega, by have := (hP b hb).2; have := k2.next; omega⟩, kS k2, fun b hb => (hS2 b hb).imp id fun h => by omega, hs⟩
    · have hf := eq_false hfull
      have c62 := (hfarC k2 H.next (by omega) (by omega)).trans c6
      simp (disch := omega) [-getElem?_pos, if_pos, if_neg, decide_eq_true, decide_eq_false, hf, c62, hcx]
      refine (Push5_spec (hview k2 hM1) x (by omega)).mono' fun u H3 w3 ⟨hN, k3⟩ => ?_
      have hlt := hD2.lt w2
      simp (disch := omega) [-getElem?_pos, if_pos, if_neg, decide_eq_true, decide_eq_false, ]
      refine ⟨u, insL Ent.lt M x, S', fun b => H2.next ≤ b ∧ b < H3.next, rfl, hD2.kept w2 k3, ⟨Vw.below hN.1 w3, hN.2⟩, fun b hb => ⟨fun h => by have := hlt b h; omega, hb.2⟩, kS (k2.trans' (k3.mono fun b hb => by simp at hb)), fun b hb => (hS2 b hb).imp id fun h => by omega, insL_srt isOrd hs x⟩
  · obtain ⟨y, hy, hyv⟩ := tell_of M false
    simp (disch := omega) [-getElem?_pos, if_pos, if_neg, decide_eq_true, decide_eq_false, ]
    refine (DPopMin_spec hD1).mono' fun u H2 w2 ⟨hu, hD2, k2⟩ => ?_
    subst hu
    rw [hyv]
    have b102 := (hfar k2 (H.next + 1) (by omega) (by omega)).trans b10
    have b112 := (hfar k2 (H.next + 2) (by omega) (by omega)).trans b11
    have hn2 := k2.next
    have hM2 := hview k2 hM1
    simp (disch := omega) [-getElem?_pos, if_pos, if_neg, decide_eq_true, decide_eq_false, writeA_row b102, over]
    have k23 : Keep S H (H2.set (H.next + 1) (.row [.int .i64 y.b, .int .i64 y.d, .int .i64 y.s, .int .i64 y.i] T_key_Entry true)) := Keep.new_setS (by omega) (kS k2)
    have w3 : WF (H2.set (H.next + 1) (.row [.int .i64 y.b, .int .i64 y.d, .int .i64 y.s, .int .i64 y.i] T_key_Entry true)) := w2.set (by omega)
    have hM3 : EntsV P (H2.set (H.next + 1) (.row [.int .i64 y.b, .int .i64 y.d, .int .i64 y.s, .int .i64 y.i] T_key_Entry true)) (.slice ma M.length mc) M := hM2.over fun b hb => AH.cells_set_ne (by have := (hP b hb).2; omega)
    have hD3 : DeH (H2.set (H.next + 1) (.row [.int .i64 y.b, .int .i64 y.d, .int .i64 y.s, .int .i64 y.i] T_key_Entry true)) d k most (restE M false) S := hD2.keep fun b hb => AH.set_blk_ne (by have := hSl b hb; omega)
    have c103 : (H2.set (H.next + 1) (.row [.int .i64 y.b, .int .i64 y.d, .int .i64 y.s, .int .i64 y.i] T_key_Entry true)).cells (H.next + 1) = some [.int .i64 y.b, .int .i64 y.d, .int .i64 y.s, .int .i64 y.i] := AH.cells_set_same
    have b113 : (H2.set (H.next + 1) (.row [.int .i64 y.b, .int .i64 y.d, .int .i64 y.s, .int .i64 y.i] T_key_Entry true)).blk (H.next + 2) = some (ent0 T_secateurref05_Entry) := by rw [AH.set_blk_ne (show H.next + 2 ≠ H.next + 1 by omega), b112]
    have n3 : (H2.set (H.next + 1) (.row [.int .i64 y.b, .int .i64 y.d, .int .i64 y.s, .int .i64 y.i] T_key_Entry true)).next = H2.next := rfl
    generalize H2.set (H.next + 1) (.row [.int .i64 y.b, .int .i64 y.d, .int .i64 y.s, .int .i64 y.i] T_key_Entry true) = H3 at *
    refine (Pop5_spec hM3 false).mono' fun u H4 w4 ⟨k4, w, hu, hw4⟩ => ?_
    subst hu
    rw [hy]
    have hn4 := k4.next
    have hD4 := hD3.kept w3 k4
    have hM4 := hM3.kept w3 k4
    have c104 := cells_kept w3 k4 c103
    have b114 := (k4.blk (H.next + 2) (by omega) (by simp)).trans b113
    simp (disch := omega) [-getElem?_pos, if_pos, if_neg, decide_eq_true, decide_eq_false, writeA_row b114, over]
    have c105 : (H4.set (H.next + 2) (.row [.int .i64 y.b, .int .i64 y.d, .int .i64 y.s, .int .i64 y.i] T_secateurref05_Entry true)).cells (H.next + 1) = some [.int .i64 y.b, .int .i64 y.d, .int .i64 y.s, .int .i64 y.i] := by rw [AH.cells_set_ne (by omega), c104]
    have c115 : (H4.set (H.next + 2) (.row [.int .i64 y.b, .int .i64 y.d, .int .i64 y.s, .int .i64 y.i] T_secateurref05_Entry true)).cells (H.next + 2) = some [.int .i64 y.b, .int .i64 y.d, .int .i64 y.s, .int .i64 y.i] := AH.cells_set_same
    have k25 : Keep S H (H4.set (H.next + 2) (.row [.int .i64 y.b, .int .i64 y.d, .int .i64 y.s, .int .i64 y.i] T_secateurref05_Entry true)) := Keep.new_setS (by omega) (k23.trans' (k4.mono fun b hb => by simp at hb))
    have hD5 : DeH (H4.set (H.next + 2) (.row [.int .i64 y.b, .int .i64 y.d, .int .i64 y.s, .int .i64 y.i] T_secateurref05_Entry true)) d k most (restE M false) S := hD4.keep fun b hb => AH.set_blk_ne (by have := hSl b hb; omega)
    have hview4 : ∀ {w : Value} {L : List Ent}, EntsV P H4 w L → EntsV P (H4.set (H.next + 2) (.row [.int .i64 y.b, .int .i64 y.d, .int .i64 y.s, .int .i64 y.i] T_secateurref05_Entry true)) w L := fun h => h.over fun b hb => AH.cells_set_ne (by have := (hP b hb).2; omega)
    have hM5 := hview4 hw4
    have n5 : (H4.set (H.next + 2) (.row [.int .i64 y.b, .int .i64 y.d, .int .i64 y.s, .int .i64 y.i] T_secateurref05_Entry true)).next = H4.next := rfl
    clear hview4
    generalize H4.set (H.next + 2) (.row [.int .i64 y.b, .int .i64 y.d, .int .i64 y.s, .int .i64 y.i] T_secateurref05_Entry true) = H5 at *
    simp (disch := omega) [-getElem?_pos, if_pos, if_neg, decide_eq_true, decide_eq_false, c104, c105, c115, cutE]
    refine AFnD.of (of7_spec y) ?_
    simp (disch := omega) [-getElem?_pos, if_pos, if_neg, decide_eq_true, decide_eq_false, c105, c115, cutE, eqE_key]
    exact ⟨_, _, S, P, rfl, hD5, hM5, fun b hb => ⟨(hP b hb).1, by have := (hP b hb).2; omega⟩, k25, fun b hb => .inl hb, (restE_srt hs false)⟩
  · obtain ⟨y, hy, hyv⟩ := tell_of M true
    simp (disch := omega) [-getElem?_pos, if_pos, if_neg, decide_eq_true, decide_eq_false, ]
    refine (DPopMax_spec hD1).mono' fun u H2 w2 ⟨hu, hD2, k2⟩ => ?_
    subst hu
    rw [hyv]
    have b102 := (hfar k2 (H.next + 1) (by omega) (by omega)).trans b10
    have b112 := (hfar k2 (H.next + 2) (by omega) (by omega)).trans b11
    have hn2 := k2.next
    have hM2 := hview k2 hM1
    simp (disch := omega) [-getElem?_pos, if_pos, if_neg, decide_eq_true, decide_eq_false, writeA_row b102, over]
    have k23 : Keep S H (H2.set (H.next + 1) (.row [.int .i64 y.b, .int .i64 y.d, .int .i64 y.s, .int .i64 y.i] T_key_Entry true)) := Keep.new_setS (by omega) (kS k2)
    have w3 : WF (H2.set (H.next + 1) (.row [.int .i64 y.b, .int .i64 y.d, .int .i64 y.s, .int .i64 y.i] T_key_Entry true)) := w2.set (by omega)
    have hM3 : EntsV P (H2.set (H.next + 1) (.row [.int .i64 y.b, .int .i64 y.d, .int .i64 y.s, .int .i64 y.i] T_key_Entry true)) (.slice ma M.length mc) M := hM2.over fun b hb => AH.cells_set_ne (by have := (hP b hb).2; omega)
    have hD3 : DeH (H2.set (H.next + 1) (.row [.int .i64 y.b, .int .i64 y.d, .int .i64 y.s, .int .i64 y.i] T_key_Entry true)) d k most (restE M true) S := hD2.keep fun b hb => AH.set_blk_ne (by have := hSl b hb; omega)
    have c103 : (H2.set (H.next + 1) (.row [.int .i64 y.b, .int .i64 y.d, .int .i64 y.s, .int .i64 y.i] T_key_Entry true)).cells (H.next + 1) = some [.int .i64 y.b, .int .i64 y.d, .int .i64 y.s, .int .i64 y.i] := AH.cells_set_same
    have b113 : (H2.set (H.next + 1) (.row [.int .i64 y.b, .int .i64 y.d, .int .i64 y.s, .int .i64 y.i] T_key_Entry true)).blk (H.next + 2) = some (ent0 T_secateurref05_Entry) := by rw [AH.set_blk_ne (show H.next + 2 ≠ H.next + 1 by omega), b112]
    have n3 : (H2.set (H.next + 1) (.row [.int .i64 y.b, .int .i64 y.d, .int .i64 y.s, .int .i64 y.i] T_key_Entry true)).next = H2.next := rfl
    generalize H2.set (H.next + 1) (.row [.int .i64 y.b, .int .i64 y.d, .int .i64 y.s, .int .i64 y.i] T_key_Entry true) = H3 at *
    refine (Pop5_spec hM3 true).mono' fun u H4 w4 ⟨k4, w, hu, hw4⟩ => ?_
    subst hu
    rw [hy]
    have hn4 := k4.next
    have hD4 := hD3.kept w3 k4
    have hM4 := hM3.kept w3 k4
    have c104 := cells_kept w3 k4 c103
    have b114 := (k4.blk (H.next + 2) (by omega) (by simp)).trans b113
    simp (disch := omega) [-getElem?_pos, if_pos, if_neg, decide_eq_true, decide_eq_false, writeA_row b114, over]
    have c105 : (H4.set (H.next + 2) (.row [.int .i64 y.b, .int .i64 y.d, .int .i64 y.s, .int .i64 y.i] T_secateurref05_Entry true)).cells (H.next + 1) = some [.int .i64 y.b, .int .i64 y.d, .int .i64 y.s, .int .i64 y.i] := by rw [AH.cells_set_ne (by omega), c104]
    have c115 : (H4.set (H.next + 2) (.row [.int .i64 y.b, .int .i64 y.d, .int .i64 y.s, .int .i64 y.i] T_secateurref05_Entry true)).cells (H.next + 2) = some [.int .i64 y.b, .int .i64 y.d, .int .i64 y.s, .int .i64 y.i] := AH.cells_set_same
    have k25 : Keep S H (H4.set (H.next + 2) (.row [.int .i64 y.b, .int .i64 y.d, .int .i64 y.s, .int .i64 y.i] T_secateurref05_Entry true)) := Keep.new_setS (by omega) (k23.trans' (k4.mono fun b hb => by simp at hb))
    have hD5 : DeH (H4.set (H.next + 2) (.row [.int .i64 y.b, .int .i64 y.d, .int .i64 y.s, .int .i64 y.i] T_secateurref05_Entry true)) d k most (restE M true) S := hD4.keep fun b hb => AH.set_blk_ne (by have := hSl b hb; omega)
    have hview4 : ∀ {w : Value} {L : List Ent}, EntsV P H4 w L → EntsV P (H4.set (H.next + 2) (.row [.int .i64 y.b, .int .i64 y.d, .int .i64 y.s, .int .i64 y.i] T_secateurref05_Entry true)) w L := fun h => h.over fun b hb => AH.cells_set_ne (by have := (hP b hb).2; omega)
    have hM5 := hview4 hw4
    have n5 : (H4.set (H.next + 2) (.row [.int .i64 y.b, .int .i64 y.d, .int .i64 y.s, .int .i64 y.i] T_secateurref05_Entry true)).next = H4.next := rfl
    clear hview4
    generalize H4.set (H.next + 2) (.row [.int .i64 y.b, .int .i64 y.d, .int .i64 y.s, .int .i64 y.i] T_secateurref05_Entry true) = H5 at *
    simp (disch := omega) [-getElem?_pos, if_pos, if_neg, decide_eq_true, decide_eq_false, c104, c105, c115, cutE]
    refine AFnD.of (of7_spec y) ?_
    simp (disch := omega) [-getElem?_pos, if_pos, if_neg, decide_eq_true, decide_eq_false, c105, c115, cutE, eqE_key]
    exact ⟨_, _, S, P, rfl, hD5, hM5, fun b hb => ⟨(hP b hb).1, by have := (hP b hb).2; omega⟩, k25, fun b hb => .inl hb, (restE_srt hs true)⟩
  · obtain ⟨y, hy, hyv⟩ := tell_of M false
    simp (disch := omega) [-getElem?_pos, if_pos, if_neg, decide_eq_true, decide_eq_false, ]
    refine (DMin_spec hD1).mono' fun u H2 w2 ⟨hu, hD2, k2⟩ => ?_
    subst hu
    rw [hyv]
    have b102 := (hfar k2 (H.next + 1) (by omega) (by omega)).trans b10
    have b112 := (hfar k2 (H.next + 2) (by omega) (by omega)).trans b11
    have hn2 := k2.next
    have hM2 := hview k2 hM1
    simp (disch := omega) [-getElem?_pos, if_pos, if_neg, decide_eq_true, decide_eq_false, writeA_row b102, over]
    have k23 : Keep S H (H2.set (H.next + 1) (.row [.int .i64 y.b, .int .i64 y.d, .int .i64 y.s, .int .i64 y.i] T_key_Entry true)) := Keep.new_setS (by omega) (kS k2)
    have w3 : WF (H2.set (H.next + 1) (.row [.int .i64 y.b, .int .i64 y.d, .int .i64 y.s, .int .i64 y.i] T_key_Entry true)) := w2.set (by omega)
    have hM3 : EntsV P (H2.set (H.next + 1) (.row [.int .i64 y.b, .int .i64 y.d, .int .i64 y.s, .int .i64 y.i] T_key_Entry true)) (.slice ma M.length mc) M := hM2.over fun b hb => AH.cells_set_ne (by have := (hP b hb).2; omega)
    have hD3 : DeH (H2.set (H.next + 1) (.row [.int .i64 y.b, .int .i64 y.d, .int .i64 y.s, .int .i64 y.i] T_key_Entry true)) d k most M S := hD2.keep fun b hb => AH.set_blk_ne (by have := hSl b hb; omega)
    have c103 : (H2.set (H.next + 1) (.row [.int .i64 y.b, .int .i64 y.d, .int .i64 y.s, .int .i64 y.i] T_key_Entry true)).cells (H.next + 1) = some [.int .i64 y.b, .int .i64 y.d, .int .i64 y.s, .int .i64 y.i] := AH.cells_set_same
    have b113 : (H2.set (H.next + 1) (.row [.int .i64 y.b, .int .i64 y.d, .int .i64 y.s, .int .i64 y.i] T_key_Entry true)).blk (H.next + 2) = some (ent0 T_secateurref05_Entry) := by rw [AH.set_blk_ne (show H.next + 2 ≠ H.next + 1 by omega), b112]
    have n3 : (H2.set (H.next + 1) (.row [.int .i64 y.b, .int .i64 y.d, .int .i64 y.s, .int .i64 y.i] T_key_Entry true)).next = H2.next := rfl
    generalize H2.set (H.next + 1) (.row [.int .i64 y.b, .int .i64 y.d, .int .i64 y.s, .int .i64 y.i] T_key_Entry true) = H3 at *
    refine (Pop5_spec hM3 false).mono' fun u H4 w4 ⟨k4, w, hu, hw4⟩ => ?_
    subst hu
    rw [hy]
    have hn4 := k4.next
    have hD4 := hD3.kept w3 k4
    have hM4 := hM3.kept w3 k4
    have c104 := cells_kept w3 k4 c103
    have b114 := (k4.blk (H.next + 2) (by omega) (by simp)).trans b113
    simp (disch := omega) [-getElem?_pos, if_pos, if_neg, decide_eq_true, decide_eq_false, writeA_row b114, over]
    have c105 : (H4.set (H.next + 2) (.row [.int .i64 y.b, .int .i64 y.d, .int .i64 y.s, .int .i64 y.i] T_secateurref05_Entry true)).cells (H.next + 1) = some [.int .i64 y.b, .int .i64 y.d, .int .i64 y.s, .int .i64 y.i] := by rw [AH.cells_set_ne (by omega), c104]
    have c115 : (H4.set (H.next + 2) (.row [.int .i64 y.b, .int .i64 y.d, .int .i64 y.s, .int .i64 y.i] T_secateurref05_Entry true)).cells (H.next + 2) = some [.int .i64 y.b, .int .i64 y.d, .int .i64 y.s, .int .i64 y.i] := AH.cells_set_same
    have k25 : Keep S H (H4.set (H.next + 2) (.row [.int .i64 y.b, .int .i64 y.d, .int .i64 y.s, .int .i64 y.i] T_secateurref05_Entry true)) := Keep.new_setS (by omega) (k23.trans' (k4.mono fun b hb => by simp at hb))
    have hD5 : DeH (H4.set (H.next + 2) (.row [.int .i64 y.b, .int .i64 y.d, .int .i64 y.s, .int .i64 y.i] T_secateurref05_Entry true)) d k most M S := hD4.keep fun b hb => AH.set_blk_ne (by have := hSl b hb; omega)
    have hview4 : ∀ {w : Value} {L : List Ent}, EntsV P H4 w L → EntsV P (H4.set (H.next + 2) (.row [.int .i64 y.b, .int .i64 y.d, .int .i64 y.s, .int .i64 y.i] T_secateurref05_Entry true)) w L := fun h => h.over fun b hb => AH.cells_set_ne (by have := (hP b hb).2; omega)
    have hM5 := hview4 hM4
    have n5 : (H4.set (H.next + 2) (.row [.int .i64 y.b, .int .i64 y.d, .int .i64 y.s, .int .i64 y.i] T_secateurref05_Entry true)).next = H4.next := rfl
    clear hview4
    generalize H4.set (H.next + 2) (.row [.int .i64 y.b, .int .i64 y.d, .int .i64 y.s, .int .i64 y.i] T_secateurref05_Entry true) = H5 at *
    simp (disch := omega) [-getElem?_pos, if_pos, if_neg, decide_eq_true, decide_eq_false, c104, c105, c115, cutE]
    refine AFnD.of (of7_spec y) ?_
    simp (disch := omega) [-getElem?_pos, if_pos, if_neg, decide_eq_true, decide_eq_false, c105, c115, cutE, eqE_key]
    exact ⟨_, _, S, P, rfl, hD5, hM5, fun b hb => ⟨(hP b hb).1, by have := (hP b hb).2; omega⟩, k25, fun b hb => .inl hb, hs⟩
  · obtain ⟨y, hy, hyv⟩ := tell_of M true
    simp (disch := omega) [-getElem?_pos, if_pos, if_neg, decide_eq_true, decide_eq_false, ]
    refine (DMax_spec hD1).mono' fun u H2 w2 ⟨hu, hD2, k2⟩ => ?_
    subst hu
    rw [hyv]
    have b102 := (hfar k2 (H.next + 1) (by omega) (by omega)).trans b10
    have b112 := (hfar k2 (H.next + 2) (by omega) (by omega)).trans b11
    have hn2 := k2.next
    have hM2 := hview k2 hM1
    simp (disch := omega) [-getElem?_pos, if_pos, if_neg, decide_eq_true, decide_eq_false, writeA_row b102, over]
    have k23 : Keep S H (H2.set (H.next + 1) (.row [.int .i64 y.b, .int .i64 y.d, .int .i64 y.s, .int .i64 y.i] T_key_Entry true)) := Keep.new_setS (by omega) (kS k2)
    have w3 : WF (H2.set (H.next + 1) (.row [.int .i64 y.b, .int .i64 y.d, .int .i64 y.s, .int .i64 y.i] T_key_Entry true)) := w2.set (by omega)
    have hM3 : EntsV P (H2.set (H.next + 1) (.row [.int .i64 y.b, .int .i64 y.d, .int .i64 y.s, .int .i64 y.i] T_key_Entry true)) (.slice ma M.length mc) M := hM2.over fun b hb => AH.cells_set_ne (by have := (hP b hb).2; omega)
    have hD3 : DeH (H2.set (H.next + 1) (.row [.int .i64 y.b, .int .i64 y.d, .int .i64 y.s, .int .i64 y.i] T_key_Entry true)) d k most M S := hD2.keep fun b hb => AH.set_blk_ne (by have := hSl b hb; omega)
    have c103 : (H2.set (H.next + 1) (.row [.int .i64 y.b, .int .i64 y.d, .int .i64 y.s, .int .i64 y.i] T_key_Entry true)).cells (H.next + 1) = some [.int .i64 y.b, .int .i64 y.d, .int .i64 y.s, .int .i64 y.i] := AH.cells_set_same
    have b113 : (H2.set (H.next + 1) (.row [.int .i64 y.b, .int .i64 y.d, .int .i64 y.s, .int .i64 y.i] T_key_Entry true)).blk (H.next + 2) = some (ent0 T_secateurref05_Entry) := by rw [AH.set_blk_ne (show H.next + 2 ≠ H.next + 1 by omega), b112]
    have n3 : (H2.set (H.next + 1) (.row [.int .i64 y.b, .int .i64 y.d, .int .i64 y.s, .int .i64 y.i] T_key_Entry true)).next = H2.next := rfl
    generalize H2.set (H.next + 1) (.row [.int .i64 y.b, .int .i64 y.d, .int .i64 y.s, .int .i64 y.i] T_key_Entry true) = H3 at *
    refine (Pop5_spec hM3 true).mono' fun u H4 w4 ⟨k4, w, hu, hw4⟩ => ?_
    subst hu
    rw [hy]
    have hn4 := k4.next
    have hD4 := hD3.kept w3 k4
    have hM4 := hM3.kept w3 k4
    have c104 := cells_kept w3 k4 c103
    have b114 := (k4.blk (H.next + 2) (by omega) (by simp)).trans b113
    simp (disch := omega) [-getElem?_pos, if_pos, if_neg, decide_eq_true, decide_eq_false, writeA_row b114, over]
    have c105 : (H4.set (H.next + 2) (.row [.int .i64 y.b, .int .i64 y.d, .int .i64 y.s, .int .i64 y.i] T_secateurref05_Entry true)).cells (H.next + 1) = some [.int .i64 y.b, .int .i64 y.d, .int .i64 y.s, .int .i64 y.i] := by rw [AH.cells_set_ne (by omega), c104]
    have c115 : (H4.set (H.next + 2) (.row [.int .i64 y.b, .int .i64 y.d, .int .i64 y.s, .int .i64 y.i] T_secateurref05_Entry true)).cells (H.next + 2) = some [.int .i64 y.b, .int .i64 y.d, .int .i64 y.s, .int .i64 y.i] := AH.cells_set_same
    have k25 : Keep S H (H4.set (H.next + 2) (.row [.int .i64 y.b, .int .i64 y.d, .int .i64 y.s, .int .i64 y.i] T_secateurref05_Entry true)) := Keep.new_setS (by omega) (k23.trans' (k4.mono fun b hb => by simp at hb))
    have hD5 : DeH (H4.set (H.next + 2) (.row [.int .i64 y.b, .int .i64 y.d, .int .i64 y.s, .int .i64 y.i] T_secateurref05_Entry true)) d k most M S := hD4.keep fun b hb => AH.set_blk_ne (by have := hSl b hb; omega)
    have hview4 : ∀ {w : Value} {L : List Ent}, EntsV P H4 w L → EntsV P (H4.set (H.next + 2) (.row [.int .i64 y.b, .int .i64 y.d, .int .i64 y.s, .int .i64 y.i] T_secateurref05_Entry true)) w L := fun h => h.over fun b hb => AH.cells_set_ne (by have := (hP b hb).2; omega)
    have hM5 := hview4 hM4
    have n5 : (H4.set (H.next + 2) (.row [.int .i64 y.b, .int .i64 y.d, .int .i64 y.s, .int .i64 y.i] T_secateurref05_Entry true)).next = H4.next := rfl
    clear hview4
    generalize H4.set (H.next + 2) (.row [.int .i64 y.b, .int .i64 y.d, .int .i64 y.s, .int .i64 y.i] T_secateurref05_Entry true) = H5 at *
    simp (disch := omega) [-getElem?_pos, if_pos, if_neg, decide_eq_true, decide_eq_false, c104, c105, c115, cutE]
    refine AFnD.of (of7_spec y) ?_
    simp (disch := omega) [-getElem?_pos, if_pos, if_neg, decide_eq_true, decide_eq_false, c105, c115, cutE, eqE_key]
    exact ⟨_, _, S, P, rfl, hD5, hM5, fun b hb => ⟨(hP b hb).1, by have := (hP b hb).2; omega⟩, k25, fun b hb => .inl hb, hs⟩
  · have hn' : ∃ n', (if (100 : Int) < n then (100 : Int) else n) = n' ∧ n' ≤ 100 ∧ n' ≤ n ∧ (n ≤ 100 → n' = n) ∧ (100 < n → n' = 100) := ⟨_, rfl, by split <;> omega, by split <;> omega, fun h => by rw [if_neg (by omega)], fun h => by rw [if_pos h]⟩
    obtain ⟨n', hmn, m1, m2, m3, m4⟩ := hn'
    have hmn' : (if n > 100 then (100 : Int) else n) = n' := hmn
    obtain ⟨N, hN⟩ : ∃ N : Nat, (N : Int) = min (max n 0) M.length := ⟨(min (max n 0) (M.length : Int)).toNat, by omega⟩
    have hN' : (N : Int) = min (max n' 0) M.length := by
      by_cases h : n ≤ 100
      · rw [m3 h]; exact hN
      · rw [m4 (by omega)]; omega
    simp (disch := omega) [-getElem?_pos, if_pos, if_neg, decide_eq_true, decide_eq_false, c6, hcx, hmn, hmn']
    refine (last7_spec hM1 m1 hN').mono' fun u H2 w2 ⟨k2, w, out, hu, hw2, ho2⟩ => ?_
    subst hu
    have hn2 := k2.next
    have c62 := cells_kept w1 k2 c6
    simp (disch := omega) [-getElem?_pos, if_pos, if_neg, decide_eq_true, decide_eq_false, c62, hcx]
    refine (DEvict_spec (hD1.kept w1 k2) n N hN).mono' fun u H3 w3 ⟨hD3, k3, T, hO, hT⟩ => ?_
    have hw3 : EntsV P H3 w (M.take (M.length - N)) := hw2.over fun b hb => by unfold AH.cells; rw [k3.blk b (by have := (hP b hb).2; omega) (hP b hb).1]
    have ho3 : EntsV (fun b => H1.next ≤ b ∧ b < H2.next) H3 out (M.reverse.take N) := EntsV.over (H := H2) ⟨Vw.below ho2.1 w2, ho2.2⟩ fun b hb => by unfold AH.cells; rw [k3.blk b hb.2 fun h => by have := hSl b h; omega]
    simp (disch := omega) [-getElem?_pos, if_pos, if_neg, decide_eq_true, decide_eq_false, ]
    refine AFn.pure (same7_spec hO.ents ho3) ?_
    simp (disch := omega) [-getElem?_pos, if_pos, if_neg, decide_eq_true, decide_eq_false, ]
    exact ⟨w, _, S, P, rfl, hD3, hw3, fun b hb => ⟨(hP b hb).1, by have := (hP b hb).2; have := k3.next; omega⟩, (kS (k2.mono fun b hb => by simp at hb)).trans' k3, fun b hb => .inl hb, hs.sublist (List.take_sublist _ M)⟩
  · obtain ⟨j, hj, hjb, hja⟩ := cut_ex M x.b
    simp (disch := omega) [-getElem?_pos, if_pos, if_neg, decide_eq_true, decide_eq_false, c6, hcx]
    refine (cut7_spec hM1 hj hjb hja).mono' fun u H2 w2 ⟨k2, v1, v2, hu, hv1, hv2⟩ => ?_
    subst hu
    have hn2 := k2.next
    have c62 := cells_kept w1 k2 c6
    simp (disch := omega) [-getElem?_pos, if_pos, if_neg, decide_eq_true, decide_eq_false, c62, hcx]
    refine (DDrop_spec (hD1.kept w1 k2) x.b).mono' fun u H3 w3 ⟨j', hj', hD3, k3, ⟨T, hO, hT⟩, hall, hjj⟩ => ?_
    obtain rfl : j' = j := by
      by_cases h : j' < j
      · have := hjb j' h
        have := hall j' (Nat.le_refl _) (by omega)
        omega
      · by_cases h2 : j < j'
        · have h3 := hja (by omega)
          rcases hjj with h4 | h4
          · omega
          · by_cases h5 : j = j' - 1
            · subst h5; omega
            · have := lt_bound (srt_le hs (show j < j' - 1 by omega) (by omega)); omega
        · omega
    have hv13 : EntsV P H3 v1 (M.take j') := hv1.over fun b hb => by unfold AH.cells; rw [k3.blk b (by have := (hP b hb).2; omega) (hP b hb).1]
    have hv23 : EntsV P H3 v2 (M.drop j') := hv2.over fun b hb => by unfold AH.cells; rw [k3.blk b (by have := (hP b hb).2; omega) (hP b hb).1]
    simp (disch := omega) [-getElem?_pos, if_pos, if_neg, decide_eq_true, decide_eq_false, ]
    refine AFn.pure (same7_spec hO.ents hv23) ?_
    simp (disch := omega) [-getElem?_pos, if_pos, if_neg, decide_eq_true, decide_eq_false, ]
    exact ⟨v1, _, S, P, rfl, hD3, hv13, fun b hb => ⟨(hP b hb).1, by have := (hP b hb).2; have := k3.next; omega⟩, (kS (k2.mono fun b hb => by simp at hb)).trans' k3, fun b hb => .inl hb, hs.sublist (List.take_sublist _ M)⟩
end Go.Proofs.Ytgecnmjohhmfjaa
