/-
  The document's pool: the contracts of its functions.
-/
import Derived.Test.YtakdkbdjjlmccaaIDs
set_option maxRecDepth 100000
set_option linter.unusedSimpArgs false
set_option linter.unusedVariables false
namespace Go.Proofs.Ytakdkbdjjlmccaa
open Go Go.Abs

structure RefR where
  most : Int
  ids : List Int
  vals : List Int
  free : List Int
  next : Int

/-- What the document's pool is on the heap. -/
def IsRef (H : AH) (p : Nat) (R : RefR) (S : List Nat) : Prop :=
  ∃ ia ic va vc fa fc Si Sv Sf, H.blk p = some (.row [.int .i64 R.most, .slice ia R.ids.length ic, .slice va R.vals.length vc, .slice fa R.free.length fc, .int .i64 R.next] 45 true) ∧
    Own H 3 1 (.slice ia R.ids.length ic) R.ids.length (R.ids.map (.int .i64)) Si ∧ Own H 2 1 (.slice va R.vals.length vc) R.vals.length (R.vals.map (.int .i64)) Sv ∧ Own H 3 1 (.slice fa R.free.length fc) R.free.length (R.free.map (.int .i64)) Sf ∧
    S = p :: (Si ++ Sv ++ Sf) ∧ p ∉ Si ∧ p ∉ Sv ∧ p ∉ Sf ∧ (∀ b ∈ Si, b ∉ Sv ∧ b ∉ Sf) ∧ ∀ b ∈ Sv, b ∉ Sf

theorem IsRef.lt {H : AH} {p : Nat} {R : RefR} {S : List Nat} (h : IsRef H p R S) (hw : WF H) : ∀ b ∈ S, b < H.next := by
  obtain ⟨ia, ic, va, vc, fa, fc, Si, Sv, Sf, h1, h2, h3, h4, rfl, h5⟩ := h
  have := hw.lt h1
  have := h2.lt hw
  have := h3.lt hw
  have := h4.lt hw
  grind

/-- In all: which places before k are at this number; -1, if none. -/
def lastAt (id : Int) : List Int → Nat → Int → Int
  | [], _, at_ => at_
  | x :: xs, k, at_ => lastAt id xs (k + 1) (if x = id then k else at_)

theorem lastAt_append (id : Int) (l m : List Int) (k : Nat) (a : Int) : lastAt id (l ++ m) k a = lastAt id m (k + l.length) (lastAt id l k a) := by
  induction l generalizing k a with
  | nil => rfl
  | cons x l ih => simp [lastAt, ih, Nat.add_assoc, Nat.add_comm 1]

theorem lastAt_le (id : Int) (l : List Int) (k : Nat) (a : Int) (ha : -1 ≤ a ∧ a < k) : -1 ≤ lastAt id l k a ∧ lastAt id l k a < k + l.length := by
  induction l generalizing k a with
  | nil => simpa [lastAt] using ha
  | cons x l ih =>
    have := ih (k + 1) (if x = id then k else a) (by split <;> omega)
    simp only [lastAt, List.length_cons]
    omega

/-- All but one place. -/
def without {α : Type} (i : Int) : List α → Nat → List α
  | [], _ => []
  | x :: xs, k => if (k : Int) = i then without i xs (k + 1) else x :: without i xs (k + 1)

theorem without_append {α : Type} (i : Int) (l m : List α) (k : Nat) : without i (l ++ m) k = without i l k ++ without i m (k + l.length) := by
  induction l generalizing k with
  | nil => rfl
  | cons x l ih => simp only [List.cons_append, without, ih]; split <;> simp [Nat.add_assoc, Nat.add_comm 1]

theorem without_length {α : Type} (i : Int) (l : List α) (k : Nat) : (without i l k).length ≤ l.length := by
  induction l generalizing k with
  | nil => simp [without]
  | cons x l ih => have := ih (k + 1); simp only [without]; split <;> simp <;> omega

theorem refget_l1 {env : Env} {H : AH} {p : Nat} {ids : List Int} {c : Nat} {S : List Nat} {x1 x2 x3 x4 : Value} {a : Option Addr} (id : Int) (hc : H.cells p = some [x1, .slice a ids.length c, x2, x3, x4]) (ho : Own H 3 1 (.slice a ids.length c) ids.length (ids.map (.int .i64)) S) (hroom : ids.length < 1000000)
    (e0 : env 0 = some (.pointer (some ⟨p, 0, none⟩))) (e1 : env 1 = some (.int .i64 id)) (e8 : env 8 = some (.int .i64 (-1))) (e9 : env 9 = some (.int .i64 0)) :
    wpC Try.prog 94 (.loop ir16_l1) (fun e env' H' => e = .exit 0 ∧ H' = H ∧ env' 8 = some (.int .i64 (lastAt id ids 0 (-1)))) env H := by
  refine loop_upto ids.length (fun k env H' => H' = H ∧ env 0 = some (.pointer (some ⟨p, 0, none⟩)) ∧ env 1 = some (.int .i64 id) ∧ env 8 = some (.int .i64 (lastAt id (ids.take k) 0 (-1))) ∧ env 9 = some (.int .i64 k)) ⟨rfl, e0, e1, e8, e9⟩ ?_
  rintro k env H' hk ⟨rfl, e0, e1, e8, e9⟩
  by_cases hkn : k < ids.length
  · obtain ⟨b, off, sp, cs, rfl, rfl, q1, q2, q3, q4, q5, q6⟩ := ho.ints (by omega)
    have e2 := q6 k hkn
    have et : ids.take (k + 1) = ids.take k ++ [ids[k]] := take_succ_get (by simp [hkn])
    have hlen : (List.take k ids).length = k := by simp; omega
    clear q6 ho
    have hla : some (lastAt id (ids.take (k + 1)) 0 (-1)) = some (if ids[k] = id then (k : Int) else lastAt id (ids.take k) 0 (-1)) := by rw [et, lastAt_append, hlen]; simp [lastAt]
    generalize lastAt id (ids.take k) 0 (-1) = la at *
    by_cases hu : ids[k] = id
    · simp (disch := omega) [-getElem?_pos, if_pos, if_neg, decide_eq_true, decide_eq_false, ir16_l1, e0, e1, e8, e9, hc, q2, e2, hu, IntWalk.i64_in]
      exact ⟨hkn, by rw [Option.some.inj hla]; simp [hu]⟩
    · simp (disch := omega) [-getElem?_pos, if_pos, if_neg, decide_eq_true, decide_eq_false, ir16_l1, e0, e1, e8, e9, hc, q2, e2, hu, IntWalk.i64_in]
      exact ⟨hkn, by rw [Option.some.inj hla]; simp [hu]⟩
  · obtain rfl : k = ids.length := by omega
    simp (disch := omega) [-getElem?_pos, ir16_l1, e0, e1, e8, e9, hc]

/-- Lists of numbers, made anew. -/
def Two (H H' : AH) (env : Env) (l m : List Int) : Prop :=
  ∃ a c a' c' S S', env 11 = some (.slice a l.length c) ∧ env 12 = some (.slice a' m.length c') ∧ Own H' 3 1 (.slice a l.length c) l.length (l.map (.int .i64)) S ∧ Own H' 2 1 (.slice a' m.length c') m.length (m.map (.int .i64)) S' ∧
    Keep [] H H' ∧ (∀ b ∈ S, H.next ≤ b) ∧ (∀ b ∈ S', H.next ≤ b) ∧ (∀ b ∈ S, b ∉ S') ∧ WF H'

theorem refget_l0 {env : Env} {H : AH} {p : Nat} {ids vals : List Int} {c c2 : Nat} {S S2 : List Nat} {x1 x3 x4 : Value} {a a2 : Option Addr} (i : Int) (hw : WF H) (hc : H.blk p = some (.row [x1, .slice a ids.length c, .slice a2 vals.length c2, x3, x4] 45 true))
    (ho : Own H 3 1 (.slice a ids.length c) ids.length (ids.map (.int .i64)) S) (hv : Own H 2 1 (.slice a2 vals.length c2) vals.length (vals.map (.int .i64)) S2) (hlen : vals.length = ids.length) (hroom : ids.length < 1000000)
    (e0 : env 0 = some (.pointer (some ⟨p, 0, none⟩))) (e8 : env 8 = some (.int .i64 i)) (e11 : env 11 = some (.slice none 0 0)) (e12 : env 12 = some (.slice none 0 0)) (e13 : env 13 = some (.int .i64 0)) :
    wpC Try.prog 94 (.loop ir16_l0) (fun e env' H' => e = .exit 2 ∧ Two H H' env' (without i ids 0) (without i vals 0)) env H := by
  refine loop_upto ids.length (fun k env H' => env 0 = some (.pointer (some ⟨p, 0, none⟩)) ∧ env 8 = some (.int .i64 i) ∧ env 13 = some (.int .i64 k) ∧ Two H H' env (without i (ids.take k) 0) (without i (vals.take k) 0)) ⟨e0, e8, e13, none, 0, none, 0, [], [], e11, e12, .nil, .nil, .refl, by simp, by simp, by simp, hw⟩ ?_
  rintro k env H' hk ⟨e0, e8, e13, b1, c1, b2, c2, S3, S4, e11, e12, o1, o2, hkeep, hS3, hS4, hd, hw'⟩
  have hp := hw.lt hc
  have hb' : H'.blk p = _ := (hkeep.blk p hp (by simp)).trans hc
  have hc' := AH.cells_of hb'
  by_cases hkn : k < ids.length
  · have ho' := ho.kept hw hkeep (by simp)
    have hv' := hv.kept hw hkeep (by simp)
    obtain ⟨b, off, sp, cs, rfl, rfl, q1, q2, q3, q4, q5, q6⟩ := ho'.ints (by omega)
    obtain ⟨b', off', sp', cs', rfl, rfl, r1, r2, r3, r4, r5, r6⟩ := hv'.ints (by omega)
    have e2 := q6 k hkn
    have e3 := r6 k (by omega)
    have et : ids.take (k + 1) = ids.take k ++ [ids[k]] := take_succ_get (by simp [hkn])
    have et' : vals.take (k + 1) = vals.take k ++ [vals[k]] := take_succ_get (by simp [hlen, hkn])
    have hl1 : (List.take k ids).length = k := by simp; omega
    have hl2 : (List.take k vals).length = k := by simp; omega
    have w1 : some (without i (ids.take (k + 1)) 0) = some (if (k : Int) = i then without i (ids.take k) 0 else without i (ids.take k) 0 ++ [ids[k]]) := by rw [et, without_append, hl1]; simp [without]; split <;> simp
    have w2 : some (without i (vals.take (k + 1)) 0) = some (if (k : Int) = i then without i (vals.take k) 0 else without i (vals.take k) 0 ++ [vals[k]]) := by rw [et', without_append, hl2]; simp [without]; split <;> simp
    have n1 := without_length i (ids.take k) 0
    have n2 := without_length i (vals.take k) 0
    rw [hl1] at n1
    rw [hl2] at n2
    generalize without i (ids.take k) 0 = l1 at *
    generalize without i (vals.take k) 0 = l2 at *
    clear q6 r6 et et'
    by_cases hki : (k : Int) = i
    · subst hki
      simp (disch := omega) [-getElem?_pos, if_pos, if_neg, decide_eq_true, decide_eq_false, ir16_l0, e0, e8, e11, e12, e13, hc', IntWalk.i64_in]
      rw [if_pos rfl] at w1 w2
      refine ⟨hkn, ?_⟩
      rw [Option.some.inj w1, Option.some.inj w2]
      exact ⟨b1, c1, b2, c2, S3, S4, by simp [e11], by simp [e12], o1, o2, hkeep, hS3, hS4, hd, hw'⟩
    · rw [if_neg hki] at w1 w2
      have hidk := hw'.lt q1
      have hvk := hw'.lt r1
      obtain ⟨a', c', H2, S5, s1, s2, s3, s4, s5⟩ := o1.push hw' 3 8 1 [.int .i64 ids[k]] rfl (by omega) (by omega)
      have hnx := s3.next
      have hbS : b ∉ S3 := fun h => by have := hS3 _ h; have := ho.lt hw b (by simp); omega
      have hb'S : b' ∉ S3 := fun h => by have := hS3 _ h; have := hv.lt hw b' (by simp); omega
      have hpS : p ∉ S3 := fun h => by have := hS3 _ h; omega
      have q2' : H2.cells b' = some cs' := AH.cells_of ((s3.blk b' hvk hb'S).trans r1)
      have hc2 : H2.cells p = _ := AH.cells_of ((s3.blk p (by have := hkeep.next; omega) hpS).trans hb')
      have o2' := o2.kept hw' s3 (by grind)
      obtain ⟨a3, c3, H3, S6, t1, t2, t3, t4, t5⟩ := o2'.push s4 2 8 1 [.int .i64 vals[k]] rfl (by omega) (by omega)
      have hS3lt := o1.lt hw'
      have hS4lt := o2.lt hw'
      have hS5lt := s2.lt s4
      simp (disch := omega) [-getElem?_pos, if_pos, if_neg, decide_eq_true, decide_eq_false, ir16_l0, e0, e8, e11, e12, e13, hc', hki, IntWalk.i64_in, q2, e2, elemsA, cut, s1, hc2, q2', e3, t1]
      refine ⟨hkn, ?_⟩
      rw [Option.some.inj w1, Option.some.inj w2]
      refine ⟨a', c', a3, c3, S5, S6, by simp, by simp, ?_, by simpa using t2, ?_, ?_, ?_, ?_, t4⟩
      · have := s2.kept s4 t3 (by grind)
        simpa using this
      · exact (hkeep.trans s3 (fun b hb hlt => by have := hS3 b hb; omega)).trans t3 (fun b hb hlt => by have := hS4 b hb; omega)
      · have := hkeep.next; grind
      · have := hkeep.next; grind
      · grind
  · obtain rfl : k = ids.length := by omega
    simp (disch := omega) [-getElem?_pos, ir16_l0, e0, e8, e11, e12, e13, hc']
    rw [List.take_length] at e11 o1
    rw [← hlen, List.take_length] at e12 o2
    exact ⟨b1, c1, b2, c2, S3, S4, by simp [e11], by simp [e12], o1, o2, hkeep, hS3, hS4, hd, hw'⟩
end Go.Proofs.Ytakdkbdjjlmccaa
