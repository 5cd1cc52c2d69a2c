/-
  The document's pool: the contracts of its functions (2).
-/
import Derived.Test.YtakdkbdjjlmccaaRef
set_option maxRecDepth 100000
set_option linter.unusedSimpArgs false
set_option linter.unusedVariables false
namespace Go.Proofs.Ytakdkbdjjlmccaa
open Go Go.Abs

theorem RefGet_spec {H : AH} {p : Nat} {R : RefR} {S : List Nat} (h : IsRef H p R S) (id : Int) (gone : Bool) (hlen : R.vals.length = R.ids.length) (hroom : R.ids.length < 1000000) (hroom2 : R.free.length < 1000000) :
    AFn Try.prog 16 [.pointer (some ⟨p, 0, none⟩), .int .i64 id, .bool gone] H fun v H' =>
      if lastAt id R.ids 0 (-1) < 0 then H' = H ∧ v = .tuple #[.int .i64 0, .int .i64 11]
      else v = .tuple #[.int .i64 (R.vals.getD (lastAt id R.ids 0 (-1)).toNat 0), .int .i64 0] ∧
        if gone then ∃ S', Keep S H H' ∧ (∀ b ∈ S', b ∈ S ∨ H.next ≤ b) ∧ IsRef H' p { R with ids := without (lastAt id R.ids 0 (-1)) R.ids 0, vals := without (lastAt id R.ids 0 (-1)) R.vals 0, free := R.free ++ [id] } S'
        else H' = H := by
  obtain ⟨ia, ic, va, vc, fa, fc, Si, Sv, Sf, h1, h2, h3, h4, rfl, h5, h6, h7, h8, h9⟩ := h
  have hc := AH.cells_of h1
  have hb := lastAt_le id R.ids 0 (-1) (by omega)
  refine AFn.enter mixed ir16_eq (by simp [ir16]) fun hw => ?_
  simp [ir16]
  refine wpC_use (refget_l1 id hc h2 hroom (by simp) (by simp) (by simp) (by simp)) fun e env' H' ⟨he, hH, e8⟩ henv => ?_
  subst he hH
  have e0 := henv 0 (by simp [wrC, wrO, ir16_l1])
  have e1 := henv 1 (by simp [wrC, wrO, ir16_l1])
  have e2 := henv 2 (by simp [wrC, wrO, ir16_l1])
  simp at e0 e1 e2
  generalize lastAt id R.ids 0 (-1) = i at *
  by_cases hneg : i < 0
  · simp (disch := omega) [-getElem?_pos, if_pos, if_neg, decide_eq_true, decide_eq_false, e8]
  · obtain ⟨k, rfl⟩ : ∃ k : Nat, i = k := ⟨i.toNat, by omega⟩
    have hk : k < R.vals.length := by omega
    obtain ⟨b, off, sp, cs, hva, hSv, q1, q2, q3, q4, q5, q6⟩ := h3.ints (by omega)
    subst hva
    have e3 := q6 k hk
    clear q6
    cases gone with
    | false =>
      simp (disch := omega) [-getElem?_pos, if_pos, if_neg, decide_eq_true, decide_eq_false, e0, e1, e2, e8, hc, q2, e3]
      simp [hk]
    | true =>
      simp (disch := omega) [-getElem?_pos, if_pos, if_neg, decide_eq_true, decide_eq_false, e0, e1, e2, e8, hc, q2, e3]
      refine wpC_use (refget_l0 k hw h1 h2 h3 hlen hroom (by simp [e0]) (by simp [e8]) (by simp) (by simp) (by simp)) fun e env2 H2 ⟨he, b1, c1, b2, c2, S1, S2, f11, f12, o1, o2, hkeep, hS1, hS2, hd, hw2⟩ henv2 => ?_
      subst he
      have f0 := henv2 0 (by simp [wrC, wrO, ir16_l0])
      have f1 := henv2 1 (by simp [wrC, wrO, ir16_l0])
      have f10 := henv2 10 (by simp [wrC, wrO, ir16_l0])
      simp [e0, e1] at f0 f1 f10
      have hp := hw.lt h1
      have hb2 : H2.blk p = _ := (hkeep.blk p hp (by simp)).trans h1
      have hw2c := AH.cells_of hb2
      generalize without k R.ids 0 = l1 at *
      generalize without k R.vals 0 = l2 at *
      generalize hH3 : H2.set p (.row [.int .i64 R.most, .slice b1 l1.length c1, .slice b2 l2.length c2, .slice fa R.free.length fc, .int .i64 R.next] 45 true) = H3
      have hw3 : WF H3 := by rw [← hH3]; exact hw2.set (hw2.lt hb2)
      have n3 : H3.next = H2.next := by rw [← hH3]; rfl
      have hSi := h2.lt hw
      have hSvl := h3.lt hw
      have hSf := h4.lt hw
      have hnx := hkeep.next
      have k3 : ∀ x, x ≠ p → H3.blk x = H2.blk x := fun x hx => by rw [← hH3]; exact AH.set_blk_ne hx
      have o4 : Own H3 3 1 _ R.free.length _ Sf := (h4.kept hw hkeep (by simp)).keep fun x hx => k3 x (by grind)
      obtain ⟨a', c', H4, S4, s1, s2, s3, s4, s5⟩ := o4.push hw3 3 8 1 [.int .i64 id] rfl (by omega) (by omega)
      have hb3 : H3.blk p = some (.row [.int .i64 R.most, .slice b1 l1.length c1, .slice b2 l2.length c2, .slice fa R.free.length fc, .int .i64 R.next] 45 true) := by rw [← hH3]; simp
      have hb4 : H4.blk p = _ := (s3.blk p (by rw [n3]; omega) h7).trans hb3
      have hc3 := AH.cells_of hb3
      have hc4 := AH.cells_of hb4
      have hset : ∀ B, (H2.set p B).set p (.row [.int .i64 R.most, .slice b1 l1.length c1, .slice b2 l2.length c2, .slice fa R.free.length fc, .int .i64 R.next] 45 true) = H3 := fun B => by rw [AH.set_set]; exact hH3
      simp (disch := omega) [-getElem?_pos, if_pos, if_neg, decide_eq_true, decide_eq_false, f0, f1, f10, f11, f12, hw2c, hb2, writeA, hset, hc3, elemsA, cut, s1, hc4, hb4]
      have k23 : Keep (p :: (Si ++ (Sv ++ Sf))) H2 H3 := by rw [← hH3]; exact Keep.set (by simp)
      have s3' : Keep (p :: (Si ++ (Sv ++ Sf))) H3 H4 := s3.mono (by grind)
      have hS1lt := o1.lt hw2
      have hS2lt := o2.lt hw2
      refine ⟨by simp [hk], (((hkeep.mono (by simp)).trans' k23).trans' s3').trans' (Keep.set (by simp)), p :: (S1 ++ S2 ++ S4), by grind, b1, c1, b2, c2, a', c', S1, S2, S4, by simp, ?_, ?_, ?_, rfl, by grind, by grind, by grind, by grind, by grind⟩
      · exact ((o1.keep fun x hx => k3 x (by grind)).kept hw3 s3 (by grind)).keep fun x hx => AH.set_blk_ne (by grind)
      · exact ((o2.keep fun x hx => k3 x (by grind)).kept hw3 s3 (by grind)).keep fun x hx => AH.set_blk_ne (by grind)
      · have s2' := s2.keep (H' := H4.set p (.row [.int .i64 R.most, .slice b1 l1.length c1, .slice b2 l2.length c2, .slice a' (R.free.length + 1) c', .int .i64 R.next] 45 true)) fun x hx => AH.set_blk_ne (by grind)
        simpa using s2'

theorem getLast_append {l : List Int} (h : l ≠ []) : ∃ ys i, l = ys ++ [i] := ⟨l.dropLast, l.getLast h, (List.dropLast_concat_getLast h).symm⟩

theorem RefPut_spec {H : AH} {p : Nat} {R : RefR} {S : List Nat} (h : IsRef H p R S) (x : Int) (hlen : R.vals.length = R.ids.length) (hroom : R.ids.length < 1000000) (hroom2 : R.free.length < 1000000) (hnext : 0 ≤ R.next ∧ R.next < 1000000) :
    AFn Try.prog 14 [.pointer (some ⟨p, 0, none⟩), .int .i64 x] H fun v H' =>
      if R.most ≤ R.ids.length then H' = H ∧ v = .tuple #[.int .i64 0, .int .i64 10]
      else ∃ S', Keep S H H' ∧ (∀ b ∈ S', b ∈ S ∨ H.next ≤ b) ∧ v = .tuple #[.int .i64 (R.free.getLastD R.next), .int .i64 0] ∧
        IsRef H' p { R with ids := R.ids ++ [R.free.getLastD R.next], vals := R.vals ++ [x], free := R.free.dropLast, next := if R.free = [] then R.next + 1 else R.next } S' := by
  obtain ⟨ia, ic, va, vc, fa, fc, Si, Sv, Sf, h1, h2, h3, h4, rfl, h5, h6, h7, h8, h9⟩ := h
  have hc := AH.cells_of h1
  refine AFn.enter mixed ir14_eq (by simp [ir14]) fun hw => ?_
  by_cases hm : R.most ≤ R.ids.length
  · simp (disch := omega) [-getElem?_pos, if_pos, if_neg, decide_eq_true, decide_eq_false, ir14, hc]
  have hp := hw.lt h1
  have hSi := h2.lt hw
  have hSvl := h3.lt hw
  have hSf := h4.lt hw
  -- what follows the number
  have tail : ∀ (fa' : Option Addr) (fn : Nat) (nx id : Int) (fs : List Int) (H1 : AH), fn = fs.length → WF H1 → H1.next = H.next → (∀ b, b ≠ p → H1.blk b = H.blk b) → Own H1 3 1 (.slice fa' fs.length fc) fs.length (fs.map (.int .i64)) Sf →
      H1.blk p = some (.row [.int .i64 R.most, .slice ia R.ids.length ic, .slice va R.vals.length vc, .slice fa' fs.length fc, .int .i64 nx] 45 true) →
      ∃ a' c' a2 c2 H3 H4, appendA (H1.alloc (.row [.int .i64 id] 3 true)) 3 1 8 (.slice ia R.ids.length ic) 1 [.int .i64 id] = some (.slice a' (R.ids.length + 1) c', H3) ∧
        H3.blk p = H1.blk p ∧
        appendA ((H3.set p (.row [.int .i64 R.most, .slice a' (R.ids.length + 1) c', .slice va R.vals.length vc, .slice fa' fs.length fc, .int .i64 nx] 45 true)).alloc (.row [.int .i64 x] 2 true)) 2 1 8 (.slice va R.vals.length vc) 1 [.int .i64 x] = some (.slice a2 (R.vals.length + 1) c2, H4) ∧
        H4.blk p = some (.row [.int .i64 R.most, .slice a' (R.ids.length + 1) c', .slice va R.vals.length vc, .slice fa' fs.length fc, .int .i64 nx] 45 true) ∧
        ∃ S', Keep (p :: (Si ++ Sv ++ Sf)) H (H4.set p (.row [.int .i64 R.most, .slice a' (R.ids.length + 1) c', .slice a2 (R.vals.length + 1) c2, .slice fa' fs.length fc, .int .i64 nx] 45 true)) ∧ (∀ b ∈ S', b ∈ p :: (Si ++ Sv ++ Sf) ∨ H.next ≤ b) ∧
          IsRef (H4.set p (.row [.int .i64 R.most, .slice a' (R.ids.length + 1) c', .slice a2 (R.vals.length + 1) c2, .slice fa' fs.length fc, .int .i64 nx] 45 true)) p ⟨R.most, R.ids ++ [id], R.vals ++ [x], fs, nx⟩ S' := by
    intro fa' fn nx id fs H1 hfn hw1 hn1 hk1 ho1 hb1
    have g2 : Own H1 3 1 _ R.ids.length _ Si := h2.keep fun b hb => hk1 b (by grind)
    have g3 : Own H1 2 1 _ R.vals.length _ Sv := h3.keep fun b hb => hk1 b (by grind)
    obtain ⟨a', c', H3, S3, s1, s2, s3, s4, s5⟩ := g2.push hw1 3 8 1 [.int .i64 id] rfl (by omega) (by omega)
    have hb3 : H3.blk p = H1.blk p := s3.blk p (by omega) h5
    generalize hH4 : H3.set p (.row [.int .i64 R.most, .slice a' (R.ids.length + 1) c', .slice va R.vals.length vc, .slice fa' fs.length fc, .int .i64 nx] 45 true) = H4
    have hw4 : WF H4 := by rw [← hH4]; exact s4.set (s4.lt (hb3.trans hb1))
    have n4 : H4.next = H3.next := by rw [← hH4]; rfl
    have k4 : ∀ b, b ≠ p → H4.blk b = H3.blk b := fun b hb => by rw [← hH4]; exact AH.set_blk_ne hb
    have hnx := s3.next
    have g3' : Own H4 2 1 _ R.vals.length _ Sv := (g3.kept hw1 s3 (by grind)).keep fun b hb => k4 b (by grind)
    obtain ⟨a2, c2, H5, S5, t1, t2, t3, t4, t5⟩ := g3'.push hw4 2 8 1 [.int .i64 x] rfl (by omega) (by omega)
    have hb5 : H5.blk p = H4.blk p := t3.blk p (by omega) h6
    have hb4 : H4.blk p = some (.row [.int .i64 R.most, .slice a' (R.ids.length + 1) c', .slice va R.vals.length vc, .slice fa' fs.length fc, .int .i64 nx] 45 true) := by rw [← hH4]; simp
    have hS3lt := s2.lt s4
    have k01 : Keep (p :: (Si ++ Sv ++ Sf)) H H1 := ⟨by omega, fun b hb hn => hk1 b (by grind)⟩
    have k34 : Keep (p :: (Si ++ Sv ++ Sf)) H3 H4 := by rw [← hH4]; exact Keep.set (by simp)
    have o1 : Own H4 3 1 _ fs.length _ Sf := (ho1.kept hw1 s3 (by grind)).keep fun b hb => k4 b (by grind)
    have o2 : Own H4 3 1 _ (R.ids.length + 1) _ S3 := s2.keep fun b hb => k4 b (by grind)
    have o1' := (o1.kept hw4 t3 (by grind)).keep (H' := H5.set p (.row [.int .i64 R.most, .slice a' (R.ids.length + 1) c', .slice a2 (R.vals.length + 1) c2, .slice fa' fs.length fc, .int .i64 nx] 45 true)) fun b hb => AH.set_blk_ne (by grind)
    have o2' := (o2.kept hw4 t3 (by grind)).keep (H' := H5.set p (.row [.int .i64 R.most, .slice a' (R.ids.length + 1) c', .slice a2 (R.vals.length + 1) c2, .slice fa' fs.length fc, .int .i64 nx] 45 true)) fun b hb => AH.set_blk_ne (by grind)
    have t2' := t2.keep (H' := H5.set p (.row [.int .i64 R.most, .slice a' (R.ids.length + 1) c', .slice a2 (R.vals.length + 1) c2, .slice fa' fs.length fc, .int .i64 nx] 45 true)) fun b hb => AH.set_blk_ne (by grind)
    refine ⟨a', c', a2, c2, H3, H5, s1, hb3, by rw [hH4]; exact t1, hb5.trans hb4, p :: (S3 ++ S5 ++ Sf), ?_, by grind, a', c', a2, c2, fa', fc, S3, S5, Sf, by simp, by simpa using o2', by simpa using t2', o1', rfl, by grind, by grind, by grind, by grind, by grind⟩
    exact (((k01.trans' (s3.mono (by grind))).trans' k34).trans' (t3.mono (by grind))).trans' (Keep.set (by simp))
  by_cases hf : R.free = []
  · obtain ⟨a', c', a2, c2, H3, H4, t1, t2, t3, t4, S', t5, t6, t7⟩ := tail fa R.free.length (R.next + 1) R.next R.free (H.set p (.row [.int .i64 R.most, .slice ia R.ids.length ic, .slice va R.vals.length vc, .slice fa R.free.length fc, .int .i64 (R.next + 1)] 45 true)) rfl (hw.set hp) rfl (fun b hb => AH.set_blk_ne hb) (h4.keep fun b hb => AH.set_blk_ne (by grind)) (by simp)
    simp only [AH.set_blk, if_true] at t2
    have t2c := AH.cells_of t2
    have t4c := AH.cells_of t4
    have hfl : R.free.length = 0 := by simp [hf]
    simp only [hfl] at *
    simp (disch := omega) [-getElem?_pos, if_pos, if_neg, decide_eq_true, decide_eq_false, ir14, hc, h1, writeA, elemsA, cut, t1, t2, t2c, t3, t4, t4c, IntWalk.i64_in]
    exact ⟨by simpa using t5, S', by simpa using t6, by simp [hf], by simpa [hf] using t7⟩
  · obtain ⟨ys, i, hy⟩ := getLast_append hf
    have hyl : R.free.length = ys.length + 1 := by simp [hy]
    obtain ⟨b, off, sp, cs, hfa, hSf', q1, q2, q3, q4, q5, q6⟩ := h4.ints (by omega)
    subst hfa
    have e3 : cs[off + ys.length]? = some (.int .i64 i) := by rw [q6 ys.length (by omega)]; simp [hy]
    clear q6
    have w3 := h4.first (k := ys.length) (by omega)
    have e4 : (R.free.map (Value.int .i64)).take (ys.length * 1) = ys.map (Value.int .i64) := by simp [hy]
    rw [e4] at w3
    obtain ⟨a', c', a2, c2, H3, H4, t1, t2, t3, t4, S', t5, t6, t7⟩ := tail (some ⟨b, off, sp⟩) ys.length R.next i ys (H.set p (.row [.int .i64 R.most, .slice ia R.ids.length ic, .slice va R.vals.length vc, .slice (some ⟨b, off, sp⟩) ys.length fc, .int .i64 R.next] 45 true)) rfl (hw.set hp) rfl (fun b hb => AH.set_blk_ne hb) (w3.keep fun b hb => AH.set_blk_ne (by grind)) (by simp)
    simp only [AH.set_blk, if_true] at t2
    have t2c := AH.cells_of t2
    have t4c := AH.cells_of t4
    simp only [hyl] at *
    rcases q3 with rfl | rfl
    all_goals
      simp (disch := omega) [-getElem?_pos, if_pos, if_neg, decide_eq_true, decide_eq_false, ir14, hc, h1, writeA, elemsA, cut, q2, e3, t1, t2, t2c, t3, t4, t4c, IntWalk.i64_in]
      exact ⟨by simpa using t5, S', by simpa using t6, by simp [hy], by simpa [hy] using t7⟩
end Go.Proofs.Ytakdkbdjjlmccaa
