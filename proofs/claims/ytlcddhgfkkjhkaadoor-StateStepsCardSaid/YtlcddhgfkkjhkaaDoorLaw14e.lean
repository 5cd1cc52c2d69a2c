/-
  Layer 14: StateSteps, whole.
-/
import Derived.Test.YtlcddhgfkkjhkaaDoorLaw14d
set_option maxRecDepth 100000
set_option linter.unusedSimpArgs false
set_option linter.unusedVariables false
namespace Go.Proofs.YtlcddhgfkkjhkaaDoor
open Go Go.Abs
theorem min12 {n : Nat} : (if (12 : Int) < (n : Int) then (12 : Int) else (n : Int)) = ((min n 12 : Nat) : Int) := by split <;> omega
theorem StateSteps_abs {H : AH} {v kv : Value} {x : InstD} {K : List Int} {wr : Int} (hg : GroundA G H) (hx : InstV (fun b => b < H.next) H v x) (hK : SlV (fun b => b < H.next) H kv K) (hwr : I64 wr) : AFn Tryd.prog F_law14_StateSteps [v, kv, .int .i64 wr] H fun u H' => u = .bool true ∧ H' = H := by
  refine AFn.calm (fun H0 hs => ?_) rfl
  have hn0 : H0.next = H.next := hs.1
  have hg0 := hg.of (H' := H0) hs.2
  have hx0 := (hx.same hs).up (q := fun b => b < H0.next) (fun b hb => by omega) .refl
  have hK0 := (hK.same hs).mono (q := fun b => b < H0.next) (fun b hb => by omega)
  clear hx hK hg
  obtain ⟨iv, cv, sv, rfl, i1, i2, i3, h1, h2, h3⟩ := id hx0
  refine AFn.enter mixed ir_law14_StateSteps_eq (by simp [ir_law14_StateSteps]) fun hw => ?_
  simp (disch := omega) [-getElem?_pos, if_pos, if_neg, decide_eq_true, decide_eq_false, ir_law14_StateSteps, cut6']
  generalize hH1 : AH.alloc H0 _ = H1
  have k1 : Keep [] H0 H1 := by rw [← hH1]; exact .alloc
  have w1 : WF H1 := by rw [← hH1]; exact hw.alloc
  have n1 : H1.next = H0.next + 1 := by rw [← hH1]; simp
  clear hH1
  have hx1 := (hx0.kept hw k1).up (q := fun b => b < H1.next) (fun b hb => by omega) .refl
  refine (show AFn _ _ [_, .int .i64 ((8 : Nat) : Int)] _ _ from (tame_spec (m := 8) (by omega) (by omega) hx1)).mono' fun u H7 w7 ⟨y, hy, ht, k7⟩ => ?_
  have n7 := k7.next
  have hy7 : InstV (fun b => b < H7.next) H7 u y := hy.up (fun b hb => hb.2) .refl
  simp (disch := omega) [-getElem?_pos, if_pos, if_neg, decide_eq_true, decide_eq_false, ]
  refine (insts_spec hy7).mono' fun u3 H8 w8 ⟨a, b, hu, ha', hb', k8⟩ => ?_
  rw [clip_tame (by omega) ht] at ha' hb'
  subst hu
  have n8 := k8.next
  obtain ⟨ia', ca', sa', rfl, _⟩ := id ha'
  obtain ⟨ib', cb', sb', rfl, _⟩ := id hb'
  have hc0 := InstD.check_ok.2 ht.ok
  simp (disch := omega) [-getElem?_pos, if_pos, if_neg, decide_eq_true, decide_eq_false, writeA, over, cut6']
  generalize hH9 : AH.set (AH.set _ _ _) _ _ = H9
  have k9 : Keep [] H8 H9 := by rw [← hH9]; exact .new_set (by omega) (.new_set (by omega) (.new_alloc .alloc))
  have w9 : WF H9 := by rw [← hH9]; refine WF.set (WF.set (WF.alloc (WF.alloc w8)) ?_) ?_ <;> simp <;> omega
  have e7 : H9.cells H8.next = some [.int .i64 y.kind, .int .i64 y.cap, ia', ca', .int .i64 y.size, sa'] := by rw [← hH9]; simp
  have n9 : H9.next = H8.next + 2 := by rw [← hH9]; simp
  clear hH9
  have k09 := k1.trans' (k7.trans' (k8.trans' k9))
  have ha9 := ha'.up (q := fun b => b < H9.next) (fun b hb => by have := hb.2; omega) (.kept w8 k9)
  refine (Start_spec ha9).mono' fun u H10 w10 ⟨tv, hu, ht10, k10⟩ => ?_
  subst hu
  rw [if_pos hc0] at ht10
  rw [hc0]
  obtain ⟨pw, uw, rfl, s1, s2⟩ := id ht10
  have hsc := s1.cell
  have huc := SetB_cell s2
  have k010 := k09.trans' k10
  have n10 := k10.next
  have hK10 := (hK0.kept hw k010)
  have hlm : (K.take (min K.length 12)).length = min K.length 12 := by rw [List.length_take]; omega
  obtain ⟨ka, kc, rfl⟩ := hK0.slice
  simp (disch := omega) [-getElem?_pos, if_pos, if_neg, decide_eq_true, decide_eq_false, hsc.1, hsc.2, huc.1, huc.2, writeA, over, cut6']
  have hb11 : (H10.alloc (.row [pw, .int .i64 y.start.cost, .int .i64 y.start.left, .int .i64 y.start.pos, .int .i64 y.start.used.length, uw] T_state_State true)).blk H10.next = some (.row [pw, .int .i64 y.start.cost, .int .i64 y.start.left, .int .i64 y.start.pos, .int .i64 y.start.used.length, uw] T_state_State true) := by simp
  have k11 : Keep [] H10 (H10.alloc (.row [pw, .int .i64 y.start.cost, .int .i64 y.start.left, .int .i64 y.start.pos, .int .i64 y.start.used.length, uw] T_state_State true)) := .alloc
  have w11 : WF (H10.alloc (.row [pw, .int .i64 y.start.cost, .int .i64 y.start.left, .int .i64 y.start.pos, .int .i64 y.start.used.length, uw] T_state_State true)) := w10.alloc
  have n11 : (H10.alloc (.row [pw, .int .i64 y.start.cost, .int .i64 y.start.left, .int .i64 y.start.pos, .int .i64 y.start.used.length, uw] T_state_State true)).next = H10.next + 1 := by simp
  generalize AH.alloc H10 _ = H11 at *
  refine AFn.pure (wakes14_spec (hg0.kept hw (k010.trans' k11))) ?_
  obtain ⟨w, hsl, hw12⟩ := (hK10.kept w10 k11).sl (m := min K.length 12) (by omega)
  simp only [sz_int] at hsl
  have m12 := min12 (n := K.length)
  have hl20 : (K.take (min K.length 12)).length ≤ 20 := by omega
  rw [← hlm] at m12
  rw [show (Value.int .i64 ((min K.length 12 : Nat) : Int)) = .int .i64 ((K.take (min K.length 12)).length : Nat) from by rw [hlm]] at hsl
  have hwv : SlV (fun b => b < H0.next) H10 w (K.take (min K.length 12)) := hw12.up (fun _ h => h) fun b hb cs hc => by
    unfold AH.cells at hc ⊢
    rw [k11.blk b (by omega) (by simp)] at hc
    exact hc
  clear hlm
  generalize K.take (min K.length 12) = L at *
  obtain ⟨wa, wc, rfl⟩ := hw12.slice
  simp (disch := omega) [-getElem?_pos, if_pos, if_neg, decide_eq_true, decide_eq_false, m12, ↓ieval_slhi, hsl]
  refine wpC_use (steps_l1 (H0 := H10) (q7 := H8.next) (hg0.kept hw k010) w10 hwr (cells_kept w9 k10 e7) (ha9.up (fun b hb => by omega) (.kept w9 k10)) ht.ok hwv hl20 ⟨by simp, by simp, by simp, by simp, by simp, by simp, w11, k11, .slice none 0 0, [], [], y.start, pw, uw, by simp, .nil, by simp, rfl, rfl, hb11, ?_⟩) ?_
  · exact ht10.up (fun b hb => ⟨by omega, by have := hb.2; omega, by simp⟩) (.kept w10 k11)
  rintro e env2 H12 rfl hu
  simp (disch := omega) [-getElem?_pos, if_pos, if_neg, decide_eq_true, decide_eq_false, ]
end Go.Proofs.YtlcddhgfkkjhkaaDoor
