/-
  BruteRanks: the loops.
-/
import Derived.Test.YtlcddhgfkkjhkaaBrute9
import Derived.Test.YtlcddhgfkkjhkaaRef13a
import Derived.Test.YtlcddhgfkkjhkaaFar
set_option maxRecDepth 100000
set_option linter.unusedSimpArgs false
set_option linter.unusedVariables false
namespace Go.Proofs.Ytlcddhgfkkjhkaa
open Go Go.Abs

def RkI (H2 : AH) (q7 bb : Nat) (lv : Value) (k : Nat) (env : Env) (H' : AH) : Prop :=
  env 7 = some (.pointer (some ⟨q7, 0, none⟩)) ∧ env 9 = some lv ∧ env 37 = some (.slice (some ⟨bb, 0, none⟩) 2 2) ∧ env 38 = some (.int .i64 2) ∧ env 39 = some (.int .i64 k) ∧ WF H' ∧ Keep [] H2 H'
def RkQ (H2 : AH) (e : AExit) (env : Env) (H' : AH) : Prop := e = .exit 0 ∧ WF H' ∧ Keep [] H2 H'
theorem ranks_l1 {H2 : AH} {q7 bb C : Nat} {lv : Value} {cs7 : List Value} {x : InstD} {k0 k1 : Int} (hw : WF H2) (hx : InstV (fun b => b < H2.next) H2 (.agg cs7.toArray) x) (c7 : H2.cells q7 = some cs7) (hcut : cut cs7 0 6 = some cs7) (hL : SlV (fun b => b < H2.next) H2 lv ((List.range C).map x.at)) (hE : x.countE = 0) (hC : x.count = (C : Int)) (hCb : C ≤ 1048576)
    (cb : H2.cells bb = some [.int .i64 k0, .int .i64 k1]) {env : Env} (h : RkI H2 q7 bb lv 0 env H2) : wpC Try.prog 125 (.loop ir_law13_BruteRanks_l1) (RkQ H2) env H2 := by
  refine loop_upto 2 (RkI H2 q7 bb lv) (Q := RkQ H2) h ?_
  rintro k env H' hk ⟨e7, e9, e37, e38, e39, w', k'⟩
  have hn := k'.next
  by_cases hkn : k < 2
  · obtain ⟨aj, haj⟩ : ∃ aj, [Value.int .i64 k0, Value.int .i64 k1][k]? = some (.int .i64 aj) := by
      rcases (show k = 0 ∨ k = 1 by omega) with rfl | rfl
      · exact ⟨k0, rfl⟩
      · exact ⟨k1, rfl⟩
    have hx' : InstV (fun b => b < H'.next) H' (.agg cs7.toArray) x := hx.up (fun b hb => by omega) (.kept hw k')
    have c7' := cells_kept hw k' c7
    have cb' := cells_kept hw k' cb
    have hL' : SlV (fun b => b < H'.next) H' lv ((List.range C).map x.at) := hL.up (fun b hb => by omega) (.kept hw k')
    have hll : ((List.range C).map x.at).length = C := by simp
    obtain ⟨la, lc, rfl⟩ := hL'.slice
    have hk2 : (k : Int) < 2 := by omega
    generalize hcs2 : [Value.int .i64 k0, Value.int .i64 k1] = cs2 at *
    simp (disch := omega) [-getElem?_pos, if_pos, if_neg, decide_eq_true, decide_eq_false, ir_law13_BruteRanks_l1, e7, e9, e37, e38, e39, cb', haj, c7', hcut, hk2, hkn, IntWalk.i64_in]
    by_cases hr : aj < 0 ∨ (C : Int) ≤ aj
    · refine (At_out hx' hE (by rw [hC]; exact hr)).mono' fun u H3 w3 ⟨hu, k3⟩ => ?_
      subst hu
      by_cases h0 : aj < 0
      · simp (disch := omega) [-getElem?_pos, if_pos, if_neg, decide_eq_true, decide_eq_false, h0, hll, e7, e9, e37, e38, e39, IntWalk.i64_in]
        exact ⟨hkn, by simp [e7], by simp [e9], by simp [e37], by simp [e38], by simp, w3, k'.trans' k3⟩
      · have h1 : (C : Int) ≤ aj := by omega
        simp (disch := omega) [-getElem?_pos, if_pos, if_neg, decide_eq_true, decide_eq_false, h0, h1, hll, e7, e9, e37, e38, e39, IntWalk.i64_in]
        exact ⟨hkn, by simp [e7], by simp [e9], by simp [e37], by simp [e38], by simp, w3, k'.trans' k3⟩
    · obtain ⟨K, rfl⟩ : ∃ K : Nat, aj = K := ⟨aj.toNat, by omega⟩
      have hKC : K < C := by omega
      refine (At_spec (k := K) hx' hE (by rw [hC]; omega)).mono' fun u H3 w3 ⟨w, hu, S, hA, k3, hS⟩ => ?_
      subst hu
      obtain ⟨wa, wc, rfl⟩ := hA.slice
      have n3 := k3.next
      have hx3 : InstV (fun b => b < H3.next) H3 (.agg cs7.toArray) x := hx'.up (fun b hb => by omega) (.kept w' k3)
      have c73 := cells_kept w' k3 c7'
      have hal := at_max3 (k := K) hE (by rw [hC]; omega)
      have hA3 : SlV (fun b => b < H3.next) H3 (.slice wa (x.at K).length wc) (x.at K) := hA.slv (fun _ h => h.elim) (fun b hb => hA.lt w3 b hb) (by omega)
      have hK0 : ¬ C ≤ K := by omega
      simp (disch := omega) [-getElem?_pos, if_pos, if_neg, decide_eq_true, decide_eq_false, hll, e7, e9, hK0, c73, hcut]
      refine (Rank_spec hx3 hA3 hE).mono' fun u H4 w4 ⟨hu, k4⟩ => ?_
      rw [rank_at hE (by rw [hC]; omega)] at hu
      subst hu
      have hL4 : SlV (fun _ => True) H4 (.slice la ((List.range C).map x.at).length lc) ((List.range C).map x.at) := (hL'.kept w' (k3.trans' k4)).any
      obtain ⟨b0, off, sp, cap, cs, hcv, q1, q2⟩ := rows_rd hL4 (by rw [hll]; omega)
      obtain ⟨w, q3, q4⟩ := q2 K (by rw [hll]; exact hKC)
      cases hcv
      rw [List.getElem_map, List.getElem_range] at q4
      simp (disch := omega) [-getElem?_pos, if_pos, if_neg, decide_eq_true, decide_eq_false, maskV, hll, e7, e9, q1, q3, hKC, IntWalk.i64_in]
      refine AFn.pure (equal13_spec (p := fun _ => True) (hA3.kept w3 k4).any q4) ?_
      simp (disch := omega) [-getElem?_pos, if_pos, if_neg, decide_eq_true, decide_eq_false, e7, e9, e37, e38, e39, IntWalk.i64_in]
      exact ⟨hkn, by simp [e7], by simp [e9], by simp [e37], by simp [e38], by simp, w4, (k'.trans' k3).trans' k4⟩
  · obtain rfl : k = 2 := by omega
    simp (disch := omega) [-getElem?_pos, if_pos, if_neg, decide_eq_true, decide_eq_false, ir_law13_BruteRanks_l1, e38, e39]
    exact ⟨rfl, w', k'⟩

/-- What the search has found. -/
def seen (r : Option Nat) (k : Nat) : Option Nat := r.filter fun i => decide (i < k)
def SrI (H3 : AH) (yv lv : Value) (C : Nat) (r : Option Nat) (k : Nat) (env : Env) (H' : AH) : Prop :=
  H' = H3 ∧ env 2 = some yv ∧ env 102 = some lv ∧ env 103 = some (.int .i64 C) ∧ env 104 = some (.int .i64 k) ∧ env 18 = some (.int .i64 ((seen r k).getD 0 : Nat)) ∧ env 19 = some (.bool (seen r k).isSome)
def SrQ (H3 : AH) (r : Option Nat) (C : Nat) (e : AExit) (env : Env) (H' : AH) : Prop :=
  H' = H3 ∧ e = .exit 2 ∧ env 18 = some (.int .i64 ((seen r C).getD 0 : Nat)) ∧ env 19 = some (.bool (seen r C).isSome)
theorem ranks_l0 {p : Nat → Prop} {H3 : AH} {C : Nat} {yv lv : Value} {Y : List Int} {x : InstD} (hL : SlV p H3 lv ((List.range C).map x.at)) (hY : SlV p H3 yv Y) (hE : x.countE = 0) (hC : x.count = (C : Int)) (hCb : C ≤ 1048576)
    {env : Env} (h : SrI H3 yv lv C (x.rank Y) 0 env H3) : wpC Try.prog 125 (.loop ir_law13_BruteRanks_l0) (SrQ H3 (x.rank Y) C) env H3 := by
  refine loop_upto C (SrI H3 yv lv C (x.rank Y)) (Q := SrQ H3 (x.rank Y) C) h ?_
  rintro k env H' hk ⟨rfl, e2, e102, e103, e104, e18, e19⟩
  by_cases hkn : k < C
  · have hll : ((List.range C).map x.at).length = C := by simp
    obtain ⟨b0, off, sp, cap, cs, hcv, q1, q2⟩ := rows_rd hL (by rw [hll]; omega)
    obtain ⟨w, q3, q4⟩ := q2 k (by rw [hll]; exact hkn)
    subst hcv
    rw [List.getElem_map, List.getElem_range] at q4
    have hw := q4.cell
    have hiff := at_rank (Y := Y) hE (i := k) (by rw [hC]; omega)
    simp (disch := omega) [-getElem?_pos, if_pos, if_neg, decide_eq_true, decide_eq_false, ir_law13_BruteRanks_l0, e2, e102, e103, e104, e18, e19, hll, q1, q3, hkn, hw.1, hw.2, IntWalk.i64_in]
    refine AFn.pure (equal13_spec hY q4) ?_
    by_cases hyk : Y = x.at k
    · have hr := hiff.1 hyk.symm
      have hs : seen (x.rank Y) (k + 1) = some k := by rw [hr]; simp [seen]
      have hd : decide (Y = x.at k) = true := by simp [hyk]
      rw [hd]
      simp (disch := omega) [-getElem?_pos, if_pos, if_neg, decide_eq_true, decide_eq_false, e2, e102, e103, e104, e18, e19, IntWalk.i64_in]
      exact ⟨hkn, rfl, by simp [e2], by simp [e102], by simp [e103], by simp, by rw [hs]; simp, by rw [hs]; simp⟩
    · have hr : ¬ x.rank Y = some k := fun h => hyk (hiff.2 h).symm
      have hs : seen (x.rank Y) (k + 1) = seen (x.rank Y) k := by
        unfold seen
        cases hq : x.rank Y with
        | none => rfl
        | some i =>
          rw [hq] at hr
          have : i ≠ k := fun h => hr (by rw [h])
          simp only [Option.filter]
          by_cases h1 : i < k
          · simp [h1, Nat.lt_succ_of_lt h1]
          · simp [h1, show ¬ i < k + 1 by omega]
      have hd : decide (Y = x.at k) = false := by simp [hyk]
      rw [hd]
      simp (disch := omega) [-getElem?_pos, if_pos, if_neg, decide_eq_true, decide_eq_false, e2, e102, e103, e104, e18, e19, IntWalk.i64_in]
      exact ⟨hkn, rfl, by simp [e2], by simp [e102], by simp [e103], by simp, by rw [hs]; simp [e18], by rw [hs]; simp [e19]⟩
  · obtain rfl : k = C := by omega
    simp (disch := omega) [-getElem?_pos, if_pos, if_neg, decide_eq_true, decide_eq_false, ir_law13_BruteRanks_l0, e103, e104]
    exact ⟨rfl, rfl, e18, e19⟩
end Go.Proofs.Ytlcddhgfkkjhkaa
