/-
  BruteRanks: the walk.
-/
import Derived.Test.YtlcddhgfkkjhkaaRanks
set_option maxRecDepth 100000
set_option linter.unusedSimpArgs false
set_option linter.unusedVariables false
namespace Go.Proofs.Ytlcddhgfkkjhkaa
open Go Go.Abs

theorem seen_all {x : InstD} {Y : List Int} {C : Nat} (hE : x.countE = 0) (hC : x.count = (C : Int)) : seen (x.rank Y) C = x.rank Y := by
  unfold seen
  cases hq : x.rank Y with
  | none => rfl
  | some i =>
    have := (rank_some hE hq).1
    rw [hC] at this
    simp only [Option.filter]
    rw [if_pos (by simp; omega)]

theorem BruteRanks_abs {H : AH} {v w : Value} {x : InstD} {Y : List Int} {k : Int} (hx : InstV (fun b => b < H.next) H v x) (hY : SlV (fun b => b < H.next) H w Y) (hk : I64 k) : AFn Try.prog F_law13_BruteRanks [v, .int .i64 k, w] H fun u H' => u = .bool true ∧ H' = H := by
  refine AFn.calm (fun H0 hs => ?_) rfl
  have hn0 : H0.next = H.next := hs.1
  obtain ⟨iv, cv, sv, rfl, i1, i2, i3, h1, h2, h3⟩ := id ((hx.same hs).up (q := fun b => b < H0.next) (fun b hb => by omega) .refl)
  have hx0 := (hx.same hs).up (q := fun b => b < H0.next) (fun b hb => by omega) .refl
  have hY0 := (hY.same hs).mono (q := fun b => b < H0.next) (fun b hb => by omega)
  refine AFn.enter mixed ir_law13_BruteRanks_eq (by simp [ir_law13_BruteRanks]) fun hw => ?_
  have k1 : Keep [] H0 (H0.alloc (.row (instC x iv cv sv) T_secateurlaw13_Inst true)) := .alloc
  have w1 := WF.alloc hw (B := .row (instC x iv cv sv) T_secateurlaw13_Inst true)
  have n1 : (H0.alloc (.row (instC x iv cv sv) T_secateurlaw13_Inst true)).next = H0.next + 1 := by simp
  have hx1 := (hx0.kept hw k1).up (q := fun b => b < (H0.alloc (.row (instC x iv cv sv) T_secateurlaw13_Inst true)).next) (fun b hb => by omega) .refl
  have hY1 := (hY0.kept hw k1).mono (q := fun b => b < (H0.alloc (.row (instC x iv cv sv) T_secateurlaw13_Inst true)).next) (fun b hb => by omega)
  obtain ⟨ya, yc, rfl⟩ := hY.slice
  simp (disch := omega) [-getElem?_pos, if_pos, if_neg, decide_eq_true, decide_eq_false, ir_law13_BruteRanks, inst_cut]
  generalize H0.alloc (.row (instC x iv cv sv) T_secateurlaw13_Inst true) = H1 at *
  refine (show AFn _ _ [_, .int .i64 ((7 : Nat) : Int)] _ _ from (tame_spec (m := 7) (by omega) (by omega) hx1)).mono' fun u H2 w2 ⟨y, hy, ht, k2⟩ => ?_
  have n2 := k2.next
  obtain ⟨hE, C, hC, hC1, hC2⟩ := tame_count (by omega) ht
  have hy2 : InstV (fun b => b < H2.next) H2 u y := hy.up (fun b hb => hb.2) .refl
  have hY2 := (hY1.kept w1 k2)
  simp (disch := omega) [-getElem?_pos, if_pos, if_neg, decide_eq_true, decide_eq_false, ]
  refine (insts_spec hy2).mono' fun u3 H3 w3 ⟨a, b, hu, ha, hb, k3⟩ => ?_
  rw [clip_tame (by omega) ht] at ha hb
  subst hu
  have n3 := k3.next
  have hY3 := hY2.kept w2 k3
  obtain ⟨ia, ca, sa, rfl, a1, a2, a3, a4, a5, a6⟩ := id ha
  obtain ⟨ib, cb, sb, rfl, b1, b2, b3, b4, b5, b6⟩ := id hb
  simp (disch := omega) [-getElem?_pos, if_pos, if_neg, decide_eq_true, decide_eq_false, writeA, over, inst_cut]
  generalize hH4 : AH.set (AH.set _ _ _) _ _ = H4
  have k4 : Keep [] H3 H4 := by rw [← hH4]; exact .new_set (by omega) (.new_set (by omega) (.new_alloc .alloc))
  have w4 : WF H4 := by rw [← hH4]; refine WF.set (WF.set (WF.alloc (WF.alloc w3)) ?_) ?_ <;> simp <;> omega
  have c7 : H4.cells H3.next = some (instC y ia ca sa) := by rw [← hH4]; simp
  have n4 : H4.next = H3.next + 2 := by rw [← hH4]; simp
  clear hH4
  have hxa4 : InstV (fun b => b < H4.next) H4 (.agg (instC y ia ca sa).toArray) y := ha.up (fun b hb => by have := hb.2; omega) (.kept w3 k4)
  have hxb4 : InstV (fun b => b < H4.next) H4 (.agg (instC y ib cb sb).toArray) y := hb.up (fun b hb => by have := hb.2; omega) (.kept w3 k4)
  have hY4 := hY3.kept w3 k4
  have hmx : (if 1 < C then (C : Int) else 1) = C := by split <;> omega
  have hC0 : ¬ C = 0 := by omega
  refine (All13_spec hxb4 hE hC).mono' fun l H5 w5 ⟨S, hL, k5, hS⟩ => ?_
  have n5 := k5.next
  obtain ⟨la, lc, rfl⟩ := hL.slice
  have hll : ((List.range C).map y.at).length = C := by simp
  have hL5 : SlV (fun b => b < H5.next) H5 (.slice la ((List.range C).map y.at).length lc) ((List.range C).map y.at) := hL.slv (fun b h => h.2.1) (fun b hb => hL.lt w5 b hb) (by omega)
  simp (disch := omega) [-getElem?_pos, if_pos, if_neg, decide_eq_true, decide_eq_false, hll, hmx, hC0]
  generalize Int.tmod _ _ = k9
  generalize hH6 : AH.alloc H5 _ = H6
  have k6 : Keep [] H5 H6 := by rw [← hH6]; exact .alloc
  have w6 : WF H6 := by rw [← hH6]; exact WF.alloc w5
  have n6 : H6.next = H5.next + 1 := by rw [← hH6]; simp
  have c6 : H6.cells H5.next = some [.int .i64 k, .int .i64 k9] := by rw [← hH6]; exact AH.cells_alloc_new
  clear hH6
  have k46 := k5.trans' k6
  have hxa6 : InstV (fun b => b < H6.next) H6 (.agg (instC y ia ca sa).toArray) y := hxa4.up (fun b hb => by omega) (.kept w4 k46)
  have hL6 : SlV (fun b => b < H6.next) H6 (.slice la ((List.range C).map y.at).length lc) ((List.range C).map y.at) := hL5.up (fun b hb => by omega) (.kept w5 k6)
  have hY6 := hY4.kept w4 k46
  rw [hll] at hL6
  refine wpC_use (ranks_l1 w6 hxa6 (cells_kept w4 k46 c7) (inst_cut y ia ca sa) hL6 hE hC hC2 c6 ⟨by simp, by simp, by simp, by simp, by simp, w6, .refl⟩) ?_
  rintro e env2 H7 ⟨rfl, w7, k7⟩ hu
  have u2 := hu 2 (by decide)
  have u7 := hu 7 (by decide)
  have u9 := hu 9 (by decide)
  have n7 := k7.next
  have c77 := cells_kept w6 k7 (cells_kept w4 k46 c7)
  have hxa7 : InstV (fun b => b < H7.next) H7 (.agg (instC y ia ca sa).toArray) y := hxa6.up (fun b hb => by omega) (.kept w6 k7)
  have hY7 := hY6.kept w6 k7
  have hL7 := hL6.kept w6 k7
  have m20 : (if (20 : Int) < (Y.length : Int) then (20 : Int) else (Y.length : Int)) = ((min Y.length 20 : Nat) : Int) := by split <;> omega
  obtain ⟨yw, hsl, hz⟩ := hY7.sl (m := min Y.length 20) (by omega)
  rw [take_min] at hz
  simp only [sz_int] at hsl
  have hzc := hz.cell
  simp (disch := omega) [-getElem?_pos, if_pos, if_neg, decide_eq_true, decide_eq_false, u2, u7, u9, ↓ieval_slhi, m20, hsl, c77, inst_cut, hzc.1, hzc.2]
  refine (Rank_spec hxa7 (hz.mono fun b hb => by omega) hE).mono' fun u H8 w8 ⟨hu8, k8⟩ => ?_
  subst hu8
  have hL8 : SlV (fun _ => True) H8 (.slice la C lc) ((List.range C).map y.at) := (hL7.kept w7 k8).any
  have hz8 : SlV (fun _ => True) H8 yw (Y.take 20) := (hz.kept w7 k8).any
  have hsa := seen_all (Y := Y.take 20) hE hC
  generalize hZ : Y.take 20 = Z at *
  simp (disch := omega) [-getElem?_pos, if_pos, if_neg, decide_eq_true, decide_eq_false, maskV, u9]
  refine wpC_use (ranks_l0 (yv := yw) hL8 hz8 hE hC hC2 ⟨rfl, by simp, by simp [u9], by simp [u9], by simp, ?_, ?_⟩) ?_
  · simp [seen]
  · simp [seen]
  rintro e env3 H9 ⟨rfl, rfl, e18, e19⟩ hu3
  have v16 := hu3 16 (by decide)
  have v17 := hu3 17 (by decide)
  rw [hsa] at e18 e19
  simp (disch := omega) [-getElem?_pos, if_pos, if_neg, decide_eq_true, decide_eq_false, ]
  refine AFn.pure wakes13_spec ?_
  cases hr : y.rank Z <;> (rw [hr] at e18 e19; simp (disch := omega) [-getElem?_pos, if_pos, if_neg, decide_eq_true, decide_eq_false, e18, e19, v16, v17, hr])
end Go.Proofs.Ytlcddhgfkkjhkaa
