/-
  Layer 16: KnapSure.
-/
import Derived.Test.YtllfcbacpoaphaaKn14
set_option maxRecDepth 100000
set_option linter.unusedSimpArgs false
set_option linter.unusedVariables false
namespace Go.Proofs.Ytllfcbacpoaphaa
open Go Go.Abs
theorem KnapSure_abs {H : AH} {v : Value} {L : List (Int × Int)} {room part : Int} (hL : SlV (fun b => b < H.next) H v L) (hl : L.length * 16 ≤ 140737488351232) (hp : 0 ≤ part ∧ part ≤ 255) : AFn Try.prog F_law16_KnapSure [v, .int .i64 room, .int .u8 part] H fun u H' => u = .bool true ∧ H' = H := by
  refine AFn.calm (fun H0 hs => ?_) rfl
  have hn0 : H0.next = H.next := hs.1
  have hL0 := (hL.same hs).mono (q := fun b => b < H0.next) fun b hb => by omega
  clear hL
  refine AFn.enter mixed ir_law16_KnapSure_eq (by simp [ir_law16_KnapSure]) fun hw => ?_
  simp (disch := omega) [-getElem?_pos, if_pos, if_neg, decide_eq_true, decide_eq_false, ir_law16_KnapSure]
  refine (tame_spec hL0 hl).mono' fun u H1 w1 ⟨w, hu, hT, k1⟩ => ?_
  subst hu
  have hcT := hT.cell
  have n1 := k1.next
  simp (disch := omega) [-getElem?_pos, if_pos, if_neg, decide_eq_true, decide_eq_false, hcT]
  refine (show AFn _ _ [_, .int .i64 ((9 : Nat) : Int)] _ _ from items_spec (m := 9) (hT.mono fun b hb => by omega) (by omega)).mono' fun u H2 w2 ⟨a, b, hu, hA, hB, k2⟩ => ?_
  subst hu
  have hcA := hA.cell
  have hcB := hB.cell
  have n2 := k2.next
  have hok : ItOk ((tameI L).take 9) (magI room) := tame_ok (by omega)
  have hm := mayB_iff.2 hok
  have hl9 : ((tameI L).take 9).length ≤ 9 := by rw [List.length_take]; omega
  generalize (tameI L).take 9 = M at *
  generalize magI room = r at *
  obtain ⟨aa, ac, rfl⟩ := hA.slice
  have hA2 : SlV (fun b => b < H2.next) H2 (.slice aa M.length ac) M := hA.mono fun b hb => hb.2
  have hrl := Relax_spec (room := r) hA2 (by omega)
  unfold rlV at hrl
  have hn : rlN M r = (relL M r).1 := by unfold rlN; rw [hm]; rfl
  have hbd := rl_bound hok (by omega)
  rw [hm, hn] at hrl
  generalize (rlP M r).1 = p1 at *
  generalize (rlP M r).2 = p2 at *
  generalize (relL M r).1 = n at *
  simp (disch := omega) [-getElem?_pos, if_pos, if_neg, decide_eq_true, decide_eq_false, hcA, hcB]
  refine hrl.mono' fun u H3 w3 ⟨hu, k3⟩ => ?_
  subst hu
  have n3 := k3.next
  -- the bound: so many eighths
  obtain ⟨worth, hwd⟩ : ∃ worth, worth = n / 8 * (part % 9) := ⟨_, rfl⟩
  have hpm : 0 ≤ part % 9 ∧ part % 9 ≤ 8 := by omega
  have hq8 : 0 ≤ n / 8 ∧ n / 8 ≤ 40 * 268435456 := by omega
  have hwr : 0 ≤ worth ∧ worth ≤ 40 * 268435456 * 8 := by
    rw [hwd]
    refine ⟨Int.mul_nonneg hq8.1 hpm.1, Int.mul_le_mul hq8.2 hpm.2 hpm.1 (by omega)⟩
  have t1 : Int.tdiv n 8 = n / 8 := Int.tdiv_eq_ediv_of_nonneg hbd.1
  have t2 : Int.tmod part 9 = part % 9 := Int.tmod_eq_emod_of_nonneg hp.1
  have z1 : IntKind.i64.wrap (n / 8) = n / 8 := IntWalk.i64_in _ (by omega)
  have z2 : IntKind.u8.wrap (part % 9) = part % 9 := by simp [IntKind.wrap, IntKind.bits, IntKind.signed]; omega
  have z3 : IntKind.i64.wrap (part % 9) = part % 9 := IntWalk.i64_in _ (by omega)
  have z4 : IntKind.i64.wrap (n / 8 * (part % 9)) = worth := by rw [← hwd]; exact IntWalk.i64_in _ (by omega)
  clear hwd
  generalize n / 8 = n8 at *
  generalize part % 9 = p9 at *
  obtain ⟨H4, hH4⟩ : ∃ H4, H4 = H3.alloc (.row [.int .i64 p1, .int .i64 p2] T_ratio_Ratio true) := ⟨_, rfl⟩
  have k34 : Keep [] H3 H4 := by rw [hH4]; exact .alloc
  have w4 : WF H4 := by rw [hH4]; exact w3.alloc
  have n4 : H4.next = H3.next + 1 := by rw [hH4]; rfl
  have k24 := k3.trans' k34
  have hA4 : SlV (fun b => b < H4.next) H4 (.slice aa M.length ac) M := (hA2.kept w2 k24).mono fun b hb => by omega
  simp (disch := omega) [-getElem?_pos, if_pos, if_neg, decide_eq_true, decide_eq_false, writeA, over, cut2i, t1, t2, z1, z2, z3, z4]
  rw [← hH4]
  refine (Fix_spec (room := r) (worth := worth) hA4 (by omega) (by unfold I64; omega)).mono' fun u H5 w5 ⟨x, y, hu, hX, hY, k5⟩ => ?_
  rw [hm] at hu
  subst hu
  have n5 := k5.next
  have hcX := hX.cell
  have hcY := hY.cell
  have hfx : fxIn M r worth = selK (inB M r worth) M.length := by unfold fxIn; rw [hm]; rfl
  have hfy : fxOut M r worth = selK (outB M r worth) M.length := by unfold fxOut; rw [hm]; rfl
  rw [hfx] at hX
  rw [hfy] at hY
  simp (disch := omega) [-getElem?_pos, if_pos, if_neg, decide_eq_true, decide_eq_false, hcX, hcY]
  refine AFn.pure wakes16_spec ?_
  have hsl := i64_shl1 (k := M.length) (by omega)
  simp (disch := omega) [-getElem?_pos, if_pos, if_neg, decide_eq_true, decide_eq_false, ↓hsl]
  refine wpC_use (sure_l3 (H := H5) (va := aa) (vc := ac) (room := r) (worth := worth) w5 ((hA4.kept w4 k5).mono fun b hb => by omega) hok hl9 (hX.mono fun b hb => by omega) (hY.mono fun b hb => by omega) ⟨by simp, by simp, by simp, by simp, by simp, by simp, by simp, w5, .refl⟩) ?_
  rintro e env2 H6 ⟨rfl, k6⟩ _
  simp (disch := omega) [-getElem?_pos, if_pos, if_neg, decide_eq_true, decide_eq_false, ]
end Go.Proofs.Ytllfcbacpoaphaa
