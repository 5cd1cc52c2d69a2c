/-
  PoolPlays: the walk.
-/
import Derived.Test.YtakdkbdjjlmccaaPlays
set_option maxRecDepth 100000
set_option linter.unusedSimpArgs false
set_option linter.unusedVariables false
namespace Go.Proofs.Ytakdkbdjjlmccaa
open Go Go.Abs

theorem plays_l0 {env : Env} {H : AH} {l : List Int} {a a' : Option Addr} {c c' : Nat} {S S' : List Nat} (o1 : Own H 3 1 (.slice a l.length c) l.length (l.map (.int .i64)) S) (o2 : Own H 3 1 (.slice a' l.length c') l.length (l.map (.int .i64)) S') (hl : l.length < 1000000)
    (e22 : env 22 = some (.slice a l.length c)) (e23 : env 23 = some (.slice a' l.length c')) (e151 : env 151 = some (.int .i64 l.length)) (e152 : env 152 = some (.int .i64 0)) :
    wpC Try.prog 166 (.loop ir4_l0) (fun e env' H' => e = .exit 3 ∧ H' = H) env H := by
  refine loop_upto l.length (fun k env H' => H' = H ∧ env 22 = some (.slice a l.length c) ∧ env 23 = some (.slice a' l.length c') ∧ env 151 = some (.int .i64 l.length) ∧ env 152 = some (.int .i64 k)) ⟨rfl, e22, e23, e151, e152⟩ ?_
  rintro k env H' hk ⟨rfl, e22, e23, e151, e152⟩
  by_cases hkn : k < l.length
  · obtain ⟨b, off, sp, cs, rfl, rfl, q1, q2, q3, q4, q5, q6⟩ := o1.ints (by omega)
    obtain ⟨b', off', sp', cs', rfl, rfl, r1, r2, r3, r4, r5, r6⟩ := o2.ints (by omega)
    have e1 := q6 k hkn
    have e2 := r6 k hkn
    clear q6 r6
    simp (disch := omega) [-getElem?_pos, if_pos, if_neg, decide_eq_true, decide_eq_false, ir4_l0, ir4_b4, e22, e23, e151, e152, q2, r2, e1, e2, IntWalk.i64_in]
    exact hkn
  · obtain rfl : k = l.length := by omega
    simp (disch := omega) [-getElem?_pos, if_pos, if_neg, decide_eq_true, decide_eq_false, ir4_l0, e22, e23, e151, e152]

theorem plays_b2 {env : Env} {H H0 : AH} {p m q : Nat} {R : PoolR} {M : RefR} {F : List Nat} {d id x r : Int} {e : TypeId} (h : Pair H0 H p m R M F) (hq : H.blk q = some (.row [.int .i64 d, .int .i64 id, .int .i64 x] e true)) (hqF : q ∉ F) (hr : 0 ≤ r ∧ r < 4)
    (e5 : env 5 = some (.pointer (some ⟨p, 0, none⟩))) (e7 : env 7 = some (.pointer (some ⟨m, 0, none⟩))) (e9 : env 9 = some (.pointer (some ⟨q, 0, none⟩))) (e60 : env 60 = some (.int .i64 r)) :
    wpC Try.prog 166 ir4_b2 (fun e env' H' => e = .normal ∧ ∃ R' M' F', Pair H0 H' p m R' M' F') env H := by
  have hqc := AH.cells_of hq
  have hql := h.wf.lt hq
  have hr4 : r = 0 ∨ r = 1 ∨ r = 2 ∨ r = 3 := by omega
  rcases hr4 with rfl | rfl | rfl | rfl
  · simp (disch := omega) [-getElem?_pos, if_pos, if_neg, decide_eq_true, decide_eq_false, ir4_b2, e5, e7, e9, e60, hqc]
    refine (h.put x).mono fun v H1 ⟨hk, i, e, hv, hn⟩ => ?_
    subst hv
    have hq1 : H1.cells q = _ := AH.cells_of ((hk.blk q hql hqF).trans hq)
    simp (disch := omega) [-getElem?_pos, if_pos, if_neg, decide_eq_true, decide_eq_false, e5, e7, e9, e60, hq1]
    refine hn.mono fun v' H2 ⟨hv, hk2, hP⟩ => ?_
    subst hv
    simp (disch := omega) [-getElem?_pos, if_pos, if_neg, decide_eq_true, decide_eq_false, e5, e7, e9, e60, hq1]
    exact hP
  · simp (disch := omega) [-getElem?_pos, if_pos, if_neg, decide_eq_true, decide_eq_false, ir4_b2, e5, e7, e9, e60, hqc]
    refine (h.put x).mono fun v H1 ⟨hk, i, e, hv, hn⟩ => ?_
    subst hv
    have hq1 : H1.cells q = _ := AH.cells_of ((hk.blk q hql hqF).trans hq)
    simp (disch := omega) [-getElem?_pos, if_pos, if_neg, decide_eq_true, decide_eq_false, e5, e7, e9, e60, hq1]
    refine hn.mono fun v' H2 ⟨hv, hk2, hP⟩ => ?_
    subst hv
    simp (disch := omega) [-getElem?_pos, if_pos, if_neg, decide_eq_true, decide_eq_false, e5, e7, e9, e60, hq1]
    exact hP
  · simp (disch := omega) [-getElem?_pos, if_pos, if_neg, decide_eq_true, decide_eq_false, ir4_b2, e5, e7, e9, e60, hqc]
    refine (h.take id).mono fun v H1 ⟨hk, i, e, hv, hn⟩ => ?_
    subst hv
    have hq1 : H1.cells q = _ := AH.cells_of ((hk.blk q hql hqF).trans hq)
    simp (disch := omega) [-getElem?_pos, if_pos, if_neg, decide_eq_true, decide_eq_false, e5, e7, e9, e60, hq1]
    refine hn.mono fun v' H2 ⟨hv, hk2, hP⟩ => ?_
    subst hv
    simp (disch := omega) [-getElem?_pos, if_pos, if_neg, decide_eq_true, decide_eq_false, e5, e7, e9, e60, hq1]
    exact hP
  · simp (disch := omega) [-getElem?_pos, if_pos, if_neg, decide_eq_true, decide_eq_false, ir4_b2, e5, e7, e9, e60, hqc]
    refine (h.get id).mono fun v H1 ⟨hk, i, e, hv, hn⟩ => ?_
    subst hv
    have hq1 : H1.cells q = _ := AH.cells_of ((hk.blk q hql hqF).trans hq)
    simp (disch := omega) [-getElem?_pos, if_pos, if_neg, decide_eq_true, decide_eq_false, e5, e7, e9, e60, hq1]
    refine hn.mono fun v' H2 ⟨hv, hk2, hP⟩ => ?_
    subst hv
    simp (disch := omega) [-getElem?_pos, if_pos, if_neg, decide_eq_true, decide_eq_false, e5, e7, e9, e60, hq1]
    exact hP

end Go.Proofs.Ytakdkbdjjlmccaa
