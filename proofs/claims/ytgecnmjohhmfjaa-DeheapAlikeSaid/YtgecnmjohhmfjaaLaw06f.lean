/-
  Law 6 (5): the document's list in order: Pop.
-/
import Derived.Test.YtgecnmjohhmfjaaLaw06d
set_option maxRecDepth 100000
set_option linter.unusedSimpArgs false
set_option linter.unusedVariables false
namespace Go.Proofs.Ytgecnmjohhmfjaa
open Go Go.Abs
theorem Vw.rest {p : Nat → Prop} {H : AH} {sz n b off off' cap : Nat} {sp sp' : Option Nat} {cells : List Value} (h : Vw p H sz (.slice (some ⟨b, off, sp⟩) n cap) n cells) (hn : 0 < n) (ho : n = 1 ∨ off' = off + sz) (hs : sp' = none ∨ sp' = some sz) : Vw p H sz (.slice (some ⟨b, off', sp'⟩) (n - 1) (cap - 1)) (n - 1) (cells.drop sz) := by
  have hl := h.1
  obtain ⟨m, rfl⟩ : ∃ m, n = m + 1 := ⟨n - 1, by omega⟩
  rw [Nat.add_mul, Nat.one_mul] at hl
  refine ⟨by simp [hl], ?_⟩
  by_cases h1 : m = 0
  · exact .inl ⟨by omega, _, _, by rw [show m + 1 - 1 = 0 by omega], fun h => by cases h⟩
  · rcases h.2 with ⟨h, _⟩ | ⟨b', off0, sp0, cap0, cs, e, h2, h3, h4, h5, hp⟩
    · omega
    · cases e
      rw [Nat.add_mul, Nat.one_mul] at h5
      obtain ⟨q1, q2, q3, q4⟩ := cut_spec h5
      refine .inr ⟨b, off', sp', cap - 1, cs, rfl, by omega, hs, h4, ?_, hp⟩
      rw [Nat.add_sub_cancel, cut_eq (by omega), q2, List.drop_take, List.drop_drop]
      congr 2
      · omega
      · congr 1; omega
theorem Vw.below {p : Nat → Prop} {H : AH} {sz n : Nat} {v : Value} {cells : List Value} (h : Vw p H sz v n cells) (hw : WF H) : Vw (fun b => p b ∧ b < H.next) H sz v n cells := by
  refine ⟨h.1, ?_⟩
  rcases h.2 with h | ⟨b, off, sp, cap, cs, h1, h2, h3, h4, h5, hp⟩
  · exact .inl h
  · exact .inr ⟨b, off, sp, cap, cs, h1, h2, h3, h4, h5, hp, cells_lt hw h4⟩
theorem cellsE_tail (M : List Ent) : cellsE M.tail = (cellsE M).drop 4 := by cases M <;> rfl
def endE (M : List Ent) (last : Bool) : Option Ent := if last then M.getLast? else M.head?
def restE (M : List Ent) (last : Bool) : List Ent := if last then M.dropLast else M.tail
theorem endE_some {M : List Ent} (h : 0 < M.length) (last : Bool) : (endE M last).getD zeroE = getE M (if last then M.length - 1 else 0) := by
  unfold endE getE
  cases last with
  | true => simp [List.getLast?_eq_getElem?]
  | false => simp [List.head?_eq_getElem?]
theorem Pop5_spec {p : Nat → Prop} {H : AH} {v : Value} {M : List Ent} (h : EntsV p H v M) (last : Bool) : AFn Try.prog F_ref05_Pop [v, .bool last] H fun u H' => Keep [] H H' ∧ ∃ w, u = .tuple #[((endE M last).getD zeroE).val, w] ∧ EntsV p H' w (restE M last) := by
  refine AFn.enter mixed ir_ref05_Pop_eq (by simp [ir_ref05_Pop]) fun hw => ?_
  have hbn : (H.alloc (.row [.int .i64 0, .int .i64 0, .int .i64 0, .int .i64 0] T_secateurref05_Entry true)).blk H.next = some (.row [.int .i64 0, .int .i64 0, .int .i64 0, .int .i64 0] T_secateurref05_Entry true) := by simp
  have hnew : ∀ B, Keep [] H (H.alloc B) := fun _ => .alloc
  have hlen := h.2
  by_cases h0 : M.length = 0
  · obtain rfl := List.length_eq_zero_iff.1 h0
    obtain ⟨a, c, rfl⟩ := h.1.slice
    have h1 : ((endE [] last).getD zeroE) = zeroE := by unfold endE; cases last <;> rfl
    have h2 : restE [] last = [] := by unfold restE; cases last <;> rfl
    rw [h1, h2]
    simp (disch := omega) [-getElem?_pos, if_pos, if_neg, decide_eq_true, decide_eq_false, ir_ref05_Pop, writeA_row hbn, over, cut]
    exact ⟨hnew _, _, ⟨⟨rfl, rfl, rfl, rfl⟩, rfl⟩, .nil⟩
  · obtain ⟨b, off, sp, cap, cs, rfl, g1, g2, g3, g4, g5, g6, g7⟩ := h.1.at (by omega)
    obtain ⟨b', off', sp', cap', cs', hsl, q1, q2⟩ := ents_at h.1 (by omega)
    cases hsl
    rw [q1] at g3
    obtain rfl := Option.some.inj g3
    have hcx : ∀ y : Ent, cut [Value.int .i64 y.b, .int .i64 y.d, .int .i64 y.s, .int .i64 y.i] 0 4 = some [Value.int .i64 y.b, .int .i64 y.d, .int .i64 y.s, .int .i64 y.i] := fun _ => rfl
    have hne : b ≠ H.next := by have := cells_lt hw q1; omega
    have hE := endE_some (M := M) (by omega) last
    cases last with
    | true =>
      obtain ⟨m, hm⟩ : ∃ m, m = M.length - 1 := ⟨_, rfl⟩
      have hmi : (M.length : Int) - 1 = (m : Int) := by omega
      have q3 := q2 m (by omega)
      rw [if_pos rfl, ← hm] at hE
      rw [hE]
      generalize getE M m = x at *
      simp only [Ent.cells] at q3
      have hv : ∀ B, EntsV p (H.alloc B) (.slice (some ⟨b, off, sp⟩) m cap) (restE M true) := fun B => by
        have := (h.1.first (k := m) (by omega) cap (by omega)).kept hw (hnew B)
        rw [cellsE_take] at this
        have hr : restE M true = M.take m := by unfold restE; rw [if_pos rfl, hm, List.dropLast_eq_take]
        rw [hr]
        refine ⟨?_, by rw [List.length_take]; omega⟩
        rw [show (M.take m).length = m by rw [List.length_take]; omega]
        exact this
      rcases g2 with rfl | rfl
      · simp (disch := omega) [-getElem?_pos, if_pos, if_neg, decide_eq_true, decide_eq_false, ir_ref05_Pop, h0, show ¬ ((M.length : Int) = 0) by omega, hmi, q1, q3, hne, writeA_row hbn, over, hcx, IntWalk.i64_in]
        exact ⟨hnew _, hv _⟩
      · simp (disch := omega) [-getElem?_pos, if_pos, if_neg, decide_eq_true, decide_eq_false, ir_ref05_Pop, h0, show ¬ ((M.length : Int) = 0) by omega, hmi, q1, q3, hne, writeA_row hbn, over, hcx, IntWalk.i64_in]
        exact ⟨hnew _, hv _⟩
    | false =>
      have q3 := q2 0 (by omega)
      rw [if_neg (by simp)] at hE
      rw [hE]
      generalize getE M 0 = x at *
      simp only [Ent.cells, Nat.zero_mul, Nat.add_zero] at q3
      have hv : ∀ B off' sp', (M.length = 1 ∨ off' = off + 4) → (sp' = none ∨ sp' = some 4) → EntsV p (H.alloc B) (.slice (some ⟨b, off', sp'⟩) (M.length - 1) (cap - 1)) (restE M false) := fun B off' sp' a1 a2 => by
        have := (Vw.rest h.1 (by omega) a1 a2).kept hw (hnew B)
        rw [← cellsE_tail] at this
        have hr : restE M false = M.tail := by unfold restE; rw [if_neg (by simp)]
        rw [hr]
        refine ⟨?_, by rw [List.length_tail]; omega⟩
        rw [List.length_tail]
        exact this
      rcases g2 with rfl | rfl
      · simp (disch := omega) [-getElem?_pos, if_pos, if_neg, decide_eq_true, decide_eq_false, ir_ref05_Pop, h0, show ¬ ((M.length : Int) = 0) by omega, q1, q3, hne, writeA_row hbn, over, hcx, IntWalk.i64_in]
        refine ⟨hnew _, hv _ _ _ ?_ ?_⟩
        · by_cases hc : cap = 1
          · left; omega
          · right; simp [hc]
        · simp
      · simp (disch := omega) [-getElem?_pos, if_pos, if_neg, decide_eq_true, decide_eq_false, ir_ref05_Pop, h0, show ¬ ((M.length : Int) = 0) by omega, q1, q3, hne, writeA_row hbn, over, hcx, IntWalk.i64_in]
        exact ⟨hnew _, hv _ _ _ (.inr rfl) (.inr rfl)⟩
end Go.Proofs.Ytgecnmjohhmfjaa
