/-
  PoolPlays: the law's own text.
-/
import Derived.Test.YtakdkbdjjlmccaaPlain
import Derived.Test.YtakdkbdjjlmccaaWakes
import Derived.Test.YtakdkbdjjlmccaaA25
set_option maxRecDepth 100000
set_option linter.unusedSimpArgs false
set_option linter.unusedVariables false
namespace Go.Proofs.Ytakdkbdjjlmccaa
open Go Go.Abs

theorem IsRef.keep {H H' : AH} {p : Nat} {R : RefR} {S : List Nat} (h : IsRef H p R S) (hk : ∀ b ∈ S, H'.blk b = H.blk b) : IsRef H' p R S := by
  obtain ⟨ia, ic, va, vc, fa, fc, Si, Sv, Sf, h1, h2, h3, h4, rfl, h5⟩ := h
  refine ⟨ia, ic, va, vc, fa, fc, Si, Sv, Sf, by rw [hk p (by simp), h1], h2.keep fun b hb => hk b (by simp [hb]), h3.keep fun b hb => hk b (by simp [hb]), h4.keep fun b hb => hk b (by simp [hb]), rfl, h5⟩

/-- Both pools, made behind H0. -/
structure Pair (H0 H : AH) (p m : Nat) (R : PoolR) (M : RefR) (F : List Nat) : Prop where
  two : ∃ S S2, F = S ++ S2 ∧ IsPool 70 72 H p R S ∧ IsRef H m M S2 ∧ (∀ b ∈ S, b ∉ S2) ∧ (∀ b ∈ S, H0.next ≤ b) ∧ (∀ b ∈ S2, H0.next ≤ b)
  kept : Keep [] H0 H
  wf : WF H
  link : Link R M
  cap : (R.xs.length : Int) ≤ R.most
  small : R.most ≤ 12

theorem Link.full {R : PoolR} {M : RefR} (h : Link R M) : M.most ≤ M.ids.length ↔ R.most ≤ R.xs.length - R.fs.length := by
  have := h.cnt
  rw [h.most]
  omega

theorem Pair.small_xs {H0 H : AH} {p m : Nat} {R : PoolR} {M : RefR} {F : List Nat} (h : Pair H0 H p m R M F) : R.xs.length ≤ 12 ∧ M.ids.length ≤ 12 ∧ R.fs.length ≤ 12 := by
  have := h.cap
  have := h.small
  have := h.link.cnt
  omega

/-- Put on both. -/
theorem Pair.put {H0 H : AH} {p m : Nat} {R : PoolR} {M : RefR} {F : List Nat} (h : Pair H0 H p m R M F) (x : Int) :
    AFn Try.prog 13 [.pointer (some ⟨p, 0, none⟩), .int .i64 x] H fun v H1 => Keep F H H1 ∧ ∃ i e, v = .tuple #[.int .i64 i, .int .i64 e] ∧ AFn Try.prog 14 [.pointer (some ⟨m, 0, none⟩), .int .i64 x] H1 fun v' H2 =>
      v' = .tuple #[.int .i64 i, .int .i64 e] ∧ Keep F H H2 ∧ ∃ R' M' F', Pair H0 H2 p m R' M' F' := by
  obtain ⟨S, S2, hF, h1, h2, h3, h4, h5⟩ := h.two
  have hs := h.small_xs
  have hS := h1.lt h.wf
  have hS2 := h2.lt h.wf
  have hfull := h.link.full
  have hput := h.link.put x
  have hk0 := h.kept
  have hk0n := hk0.next
  refine (PoolL.Put_spec h1 (.int .i64 x) rfl (by omega) (fun i hi => by obtain ⟨k, y, rfl, hk⟩ := h.link.fok i hi; have := (List.getElem?_eq_some_iff.1 hk).1; omega) (by have := h.link.cnt; omega)).mono' fun v H1 w1 hq => ?_
  by_cases hm : R.most ≤ R.xs.length - R.fs.length
  · rw [if_pos hm] at hq
    obtain ⟨rfl, rfl⟩ := hq
    refine ⟨.refl, _, _, rfl, ?_⟩
    refine (RefPut_spec h2 x h.link.lenv (by omega) (by rw [h.link.free]; omega) (by rw [h.link.next]; omega)).mono' fun v' H2 w2 hq2 => ?_
    rw [if_pos (hfull.2 hm)] at hq2
    obtain ⟨rfl, rfl⟩ := hq2
    exact ⟨rfl, .refl, R, M, F, h⟩
  · rw [if_neg hm] at hq
    obtain ⟨S', k1, q2, q3⟩ := hq
    have hcap := h.cap
    have hcnt := h.link.cnt
    have q4 : IsPool 70 72 H1 p (R.put (.int .i64 x)).1 S' ∧ v = .tuple #[.int .i64 (R.put (.int .i64 x)).2, .int .i64 0] ∧ ((R.put (.int .i64 x)).1.xs.length : Int) ≤ R.most ∧ (R.put (.int .i64 x)).1.most = R.most := by
      unfold PoolR.put
      split at q3 <;> rename_i hl <;> rw [hl]
      · refine ⟨q3.1, q3.2, ?_, rfl⟩
        have : R.fs = [] := by simpa using hl
        simp only [this, List.length_nil] at hm hcnt
        simp; omega
      · exact ⟨q3.1, q3.2, by simpa using hcap, rfl⟩
    obtain ⟨q4, rfl, q5, q6⟩ := q4
    have hn1 := k1.next
    have h2' := h2.keep (H' := H1) fun b hb => k1.blk b (hS2 b hb) (fun hc => h3 b hc hb)
    refine ⟨k1.mono (by rw [hF]; grind), _, _, rfl, ?_⟩
    refine (RefPut_spec h2' x h.link.lenv (by omega) (by rw [h.link.free]; omega) (by rw [h.link.next]; omega)).mono' fun v' H2 w2 hq2 => ?_
    rw [if_neg (fun hc => hm (hfull.1 hc))] at hq2
    obtain ⟨S2', k2, r2, rfl, r4⟩ := hq2
    have hS' := q4.lt w1
    refine ⟨by rw [hput.2], (k1.mono (by rw [hF]; grind)).trans k2 (by rw [hF]; grind), _, _, S' ++ S2', ⟨⟨S', S2', rfl, q4.keep fun b hb => k2.blk b (hS' b hb) (by grind), r4, by grind, by grind, by have := hk0.next; grind⟩, ?_, w2, hput.1, by rw [q6]; exact q5, by rw [q6]; exact h.small⟩⟩
    exact (hk0.trans k1 (by grind)).trans k2 (by grind)

/-- Take on both. -/
theorem Pair.take {H0 H : AH} {p m : Nat} {R : PoolR} {M : RefR} {F : List Nat} (h : Pair H0 H p m R M F) (id : Int) :
    AFn Try.prog 15 [.pointer (some ⟨p, 0, none⟩), .int .i64 id] H fun v H1 => Keep F H H1 ∧ ∃ i e, v = .tuple #[.int .i64 i, .int .i64 e] ∧ AFn Try.prog 16 [.pointer (some ⟨m, 0, none⟩), .int .i64 id, .bool true] H1 fun v' H2 =>
      v' = .tuple #[.int .i64 i, .int .i64 e] ∧ Keep F H H2 ∧ ∃ R' M' F', Pair H0 H2 p m R' M' F' := by
  obtain ⟨S, S2, hF, h1, h2, h3, h4, h5⟩ := h.two
  have hs := h.small_xs
  have hS := h1.lt h.wf
  have hS2 := h2.lt h.wf
  have hk0 := h.kept
  have hk0n := hk0.next
  have hlv := h.link.lenv
  have hfr := h.link.free
  by_cases hid : id ∈ M.ids
  · obtain ⟨j, hj⟩ := List.getElem?_of_mem hid
    obtain ⟨y, hy⟩ := h.link.val hj
    obtain ⟨_, a2, a3⟩ := h.link.at_some hj hy
    have hla := lastAt_some id M.ids 0 (-1) j hj h.link.nodup
    rw [Nat.zero_add] at hla
    have htake := h.link.take hj (.int .i64 0)
    refine (PoolL.Take_spec h1 id (by omega)).mono' fun v H1 w1 hq => ?_
    rw [if_pos a2, a3] at hq
    obtain ⟨S', k1, q2, q3, rfl⟩ := hq
    have hn1 := k1.next
    have h2' := h2.keep (H' := H1) fun b hb => k1.blk b (hS2 b hb) (fun hc => h3 b hc hb)
    refine ⟨k1.mono (by rw [hF]; grind), _, _, rfl, ?_⟩
    refine (RefGet_spec h2' id true hlv (by omega) (by rw [hfr]; omega)).mono' fun v' H2 w2 hq2 => ?_
    rw [hla] at hq2
    rw [if_neg (by omega)] at hq2
    simp only [if_true] at hq2
    obtain ⟨rfl, S2', k2, r2, r4⟩ := hq2
    have hS' := q3.lt w1
    refine ⟨by simp [List.getD, hy], (k1.mono (by rw [hF]; grind)).trans k2 (by rw [hF]; grind), _, _, S' ++ S2', ⟨⟨S', S2', rfl, q3.keep fun b hb => k2.blk b (hS' b hb) (by grind), r4, by grind, by grind, by have := hk0.next; grind⟩, ?_, w2, htake, by simpa using h.cap, h.small⟩⟩
    exact (hk0.trans k1 (by grind)).trans k2 (by grind)
  · have hat := h.link.at_none hid
    have hla := lastAt_none id M.ids 0 (-1) hid
    refine (PoolL.Take_spec h1 id (by omega)).mono' fun v H1 w1 hq => ?_
    have hq' : H1 = H ∧ v = .tuple #[.int .i64 0, .int .i64 11] := by
      unfold PoolR.at at hat
      generalize (if 0 ≤ id then R.xs[id.toNat]? else none) = g at *
      match g with
      | none => exact hq
      | some (x, false) => exact hq
      | some (x, true) => simp at hat
    obtain ⟨rfl, rfl⟩ := hq'
    refine ⟨.refl, _, _, rfl, ?_⟩
    refine (RefGet_spec h2 id true hlv (by omega) (by rw [hfr]; omega)).mono' fun v' H2 w2 hq2 => ?_
    rw [hla, if_pos (by omega)] at hq2
    obtain ⟨rfl, rfl⟩ := hq2
    exact ⟨rfl, .refl, R, M, F, h⟩

/-- Get on both. -/
theorem Pair.get {H0 H : AH} {p m : Nat} {R : PoolR} {M : RefR} {F : List Nat} (h : Pair H0 H p m R M F) (id : Int) :
    AFn Try.prog 17 [.pointer (some ⟨p, 0, none⟩), .int .i64 id] H fun v H1 => Keep F H H1 ∧ ∃ i e, v = .tuple #[.int .i64 i, .int .i64 e] ∧ AFn Try.prog 16 [.pointer (some ⟨m, 0, none⟩), .int .i64 id, .bool false] H1 fun v' H2 =>
      v' = .tuple #[.int .i64 i, .int .i64 e] ∧ Keep F H H2 ∧ ∃ R' M' F', Pair H0 H2 p m R' M' F' := by
  obtain ⟨S, S2, hF, h1, h2, h3, h4, h5⟩ := h.two
  have hs := h.small_xs
  have hlv := h.link.lenv
  have hfr := h.link.free
  refine (PoolL.Get_spec h1 id).mono' fun v H1 w1 hq => ?_
  obtain ⟨hv, rfl⟩ := hq
  have hsp := RefGet_spec h2 id false hlv (by omega) (by rw [hfr]; omega)
  by_cases hid : id ∈ M.ids
  · obtain ⟨j, hj⟩ := List.getElem?_of_mem hid
    obtain ⟨y, hy⟩ := h.link.val hj
    obtain ⟨_, a2, a3⟩ := h.link.at_some hj hy
    have hla := lastAt_some id M.ids 0 (-1) j hj h.link.nodup
    rw [Nat.zero_add] at hla
    rw [if_pos a2, a3] at hv
    refine ⟨.refl, _, _, hv, ?_⟩
    refine hsp.mono' fun v' H2 w2 hq2 => ?_
    rw [hla, if_neg (by omega)] at hq2
    simp only [Bool.false_eq_true, if_false] at hq2
    obtain ⟨rfl, rfl⟩ := hq2
    exact ⟨by simp [List.getD, hy], .refl, R, M, F, h⟩
  · have hat := h.link.at_none hid
    have hla := lastAt_none id M.ids 0 (-1) hid
    have hv' : v = .tuple #[.int .i64 0, .int .i64 11] := by
      unfold PoolR.at at hat
      generalize (if 0 ≤ id then R.xs[id.toNat]? else none) = g at *
      match g with
      | none => exact hv
      | some (x, false) => exact hv
      | some (x, true) => simp at hat
    refine ⟨.refl, _, _, hv', ?_⟩
    refine hsp.mono' fun v' H2 w2 hq2 => ?_
    rw [hla, if_pos (by omega)] at hq2
    obtain ⟨rfl, rfl⟩ := hq2
    exact ⟨rfl, .refl, R, M, F, h⟩
end Go.Proofs.Ytakdkbdjjlmccaa
