/-
  The document's pool: its numbers in order.
-/
import Derived.Test.YtakdkbdjjlmccaaRef2
set_option maxRecDepth 100000
set_option linter.unusedSimpArgs false
set_option linter.unusedVariables false
namespace Go.Proofs.Ytakdkbdjjlmccaa
open Go Go.Abs

def same (k : Int) (l : List Int) : List Int := l.filter fun x => decide (x = k)
def risen (ids : List Int) : Nat → List Int
  | 0 => []
  | n + 1 => risen ids n ++ same n ids

theorem same_length (k : Int) (l : List Int) : (same k l).length ≤ l.length := List.length_filter_le _ _
theorem risen_length (ids : List Int) (n : Nat) : (risen ids n).length ≤ n * ids.length := by
  induction n with
  | zero => simp [risen]
  | succ n ih => have := same_length n ids; simp only [risen, List.length_append, Nat.add_mul, Nat.one_mul]; omega

/-- What is known of a list that is being made. -/
def Grows (H H' : AH) (env : Env) (l : List Int) : Prop :=
  ∃ a c S, env 3 = some (.slice a l.length c) ∧ Own H' 3 1 (.slice a l.length c) l.length (l.map (.int .i64)) S ∧ Keep [] H H' ∧ (∀ b ∈ S, H.next ≤ b) ∧ WF H'

theorem rise_l0 {env : Env} {H H0 : AH} {p : Nat} {ids l : List Int} {c : Nat} {S : List Nat} {x1 x2 x3 x4 : Value} {a : Option Addr} (k0 : Int) (hw : WF H) (hc : H.blk p = some (.row [x1, .slice a ids.length c, x2, x3, x4] 45 true))
    (ho : Own H 3 1 (.slice a ids.length c) ids.length (ids.map (.int .i64)) S) (hroom : ids.length < 1000) (hl : l.length < 1000000) 
    (e0 : env 0 = some (.pointer (some ⟨p, 0, none⟩))) (e4 : env 4 = some (.int .i64 k0)) (e5 : env 5 = some (.int .i64 0)) (hg : Grows H H0 env l) :
    wpC Try.prog 37 (.loop ir19_l0) (fun e env' H' => e = .exit 2 ∧ Grows H H' env' (l ++ same k0 ids)) env H0 := by
  refine loop_upto ids.length (fun k env H' => env 0 = some (.pointer (some ⟨p, 0, none⟩)) ∧ env 4 = some (.int .i64 k0) ∧ env 5 = some (.int .i64 k) ∧ Grows H H' env (l ++ same k0 (ids.take k))) ⟨e0, e4, e5, by simpa [same] using hg⟩ ?_
  rintro k env H' hk ⟨e0, e4, e5, b1, c1, S3, e3, o1, hkeep, hS3, hw'⟩
  have hp := hw.lt hc
  have hb' : H'.blk p = _ := (hkeep.blk p hp (by simp)).trans hc
  have hc' := AH.cells_of hb'
  by_cases hkn : k < ids.length
  · obtain ⟨b, off, sp, cs, rfl, rfl, q1, q2, q3, q4, q5, q6⟩ := (ho.kept hw hkeep (by simp)).ints (by omega)
    have e2 := q6 k hkn
    have et : ids.take (k + 1) = ids.take k ++ [ids[k]] := take_succ_get (by simp [hkn])
    have w1 : some (l ++ same k0 (ids.take (k + 1))) = some (if ids[k] = k0 then (l ++ same k0 (ids.take k)) ++ [k0] else l ++ same k0 (ids.take k)) := by
      rw [et]; simp only [same, List.filter_append, ← List.append_assoc]; split <;> rename_i h <;> simp [h]
    have n1 := same_length k0 (ids.take k)
    have n2 : (l ++ same k0 (ids.take k)).length < 2000000 := by simp at n1 ⊢; omega
    generalize l ++ same k0 (ids.take k) = l1 at *
    clear q6 et n1
    by_cases hki : ids[k] = k0
    · rw [if_pos hki] at w1
      rw [hki] at e2
      obtain ⟨a', c', H2, S5, s1, s2, s3, s4, s5⟩ := o1.push hw' 3 8 1 [.int .i64 k0] rfl (by omega) (by omega)
      simp (disch := omega) [-getElem?_pos, if_pos, if_neg, decide_eq_true, decide_eq_false, ir19_l0, e0, e3, e4, e5, hc', IntWalk.i64_in, q2, e2, elemsA, cut, s1]
      refine ⟨hkn, ?_⟩
      rw [Option.some.inj w1]
      exact ⟨a', c', S5, by simp, by simpa using s2, hkeep.trans s3 (fun b hb hlt => by have := hS3 b hb; omega), by have := hkeep.next; grind, s4⟩
    · rw [if_neg hki] at w1
      simp (disch := omega) [-getElem?_pos, if_pos, if_neg, decide_eq_true, decide_eq_false, ir19_l0, e0, e3, e4, e5, hc', IntWalk.i64_in, q2, e2, hki]
      refine ⟨hkn, ?_⟩
      rw [Option.some.inj w1]
      exact ⟨b1, c1, S3, by simp [e3], o1, hkeep, hS3, hw'⟩
  · obtain rfl : k = ids.length := by omega
    simp (disch := omega) [-getElem?_pos, ir19_l0, e0, e3, e4, e5, hc']
    rw [List.take_length] at e3 o1
    exact ⟨b1, c1, S3, by simp [e3], o1, hkeep, hS3, hw'⟩

theorem Rising_spec {H : AH} {p : Nat} {R : RefR} {S : List Nat} (h : IsRef H p R S) (n : Nat) (hn : R.next = n) (hn2 : n < 1000) (hroom : R.ids.length < 1000) :
    AFn Try.prog 19 [.pointer (some ⟨p, 0, none⟩)] H (NewInts H .i64 3 (risen R.ids n)) := by
  obtain ⟨ia, ic, va, vc, fa, fc, Si, Sv, Sf, h1, h2, h3, h4, rfl, h5, h6, h7, h8, h9⟩ := h
  refine AFn.enter mixed ir19_eq (by simp [ir19]) fun hw => ?_
  have hp := hw.lt h1
  simp [ir19]
  refine loop_upto n (fun k env H' => env 0 = some (.pointer (some ⟨p, 0, none⟩)) ∧ env 4 = some (.int .i64 k) ∧ Grows H H' env (risen R.ids k)) ⟨by simp, by simp, none, 0, [], by simp [risen], .nil, .refl, by simp, hw⟩ ?_
  rintro k env H' hk ⟨e0, e4, hg⟩
  have hb' : H'.blk p = _ := (hg.choose_spec.choose_spec.choose_spec.2.2.1.blk p hp (by simp)).trans h1
  have hc' := AH.cells_of hb'
  by_cases hkn : k < n
  · have hrl := risen_length R.ids k
    have hl : (risen R.ids k).length < 1000000 := by
      have : k * R.ids.length ≤ 1000 * R.ids.length := Nat.mul_le_mul_right _ (by omega)
      omega
    have hw1 : risen R.ids (k + 1) = risen R.ids k ++ same k R.ids := rfl
    obtain ⟨b1, c1, S3, e3, o1, hkeep, hS3, hw'⟩ := hg
    simp (disch := omega) [-getElem?_pos, if_pos, if_neg, decide_eq_true, decide_eq_false, ir19_l1, e0, e4, hc', hn]
    refine wpC_use (rise_l0 (H := H) (H0 := H') (l := risen R.ids k) k hw h1 h2 hroom hl (by simp [e0]) (by simp [e4]) (by simp) ⟨b1, c1, S3, by simp [e3], o1, hkeep, hS3, hw'⟩) fun e env2 H2 ⟨he, hg2⟩ henv => ?_
    subst he
    have f0 := henv 0 (by simp [wrC, wrO, ir19_l0])
    have f4 := henv 4 (by simp [wrC, wrO, ir19_l0])
    simp [e0, e4] at f0 f4
    rw [← hw1] at hg2
    simp (disch := omega) [-getElem?_pos, if_pos, if_neg, decide_eq_true, decide_eq_false, f0, f4, IntWalk.i64_in]
    obtain ⟨b1, c1, S3, e3, o1, hkeep, hS3, hw'⟩ := hg2
    exact ⟨hkn, b1, c1, S3, by simp [e3], o1, hkeep, hS3, hw'⟩
  · obtain rfl : k = n := by omega
    obtain ⟨b1, c1, S3, e3, o1, hkeep, hS3, hw'⟩ := hg
    generalize risen R.ids k = l2 at *
    simp (disch := omega) [-getElem?_pos, if_pos, if_neg, decide_eq_true, decide_eq_false, ir19_l1, e0, e3, e4, hc', hn]
    exact ⟨b1, c1, S3, rfl, o1, hkeep, hS3⟩
end Go.Proofs.Ytakdkbdjjlmccaa
