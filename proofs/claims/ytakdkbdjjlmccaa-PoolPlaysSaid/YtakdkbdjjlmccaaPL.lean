/-
  Pools: the contracts of the functions of one instance (written by a program of this place for each).
-/
import Derived.Test.YtakdkbdjjlmccaaPoolA
import Derived.Test.YtakdkbdjjlmccaaIr
set_option maxRecDepth 100000
set_option linter.unusedSimpArgs false
set_option linter.unusedVariables false
namespace Go.Proofs.Ytakdkbdjjlmccaa
namespace PoolL
open Go Go.Abs

theorem New_spec (n : Int) (H : AH) : AFn Try.prog 12 [.int .i64 n] H fun v H' =>
    if 1 ≤ n ∧ n ≤ 1048576 then H' = H.alloc (.row [.int .i64 n, .slice none 0 0, .slice none 0 0] 70 true) ∧ v = .tuple #[.pointer (some ⟨H.next, 0, none⟩), .int .i64 0]
    else H' = H ∧ v = .tuple #[.pointer none, .int .i64 2] := by
  refine AFn.enter mixed ir12_eq (by simp [ir12]) fun hw => ?_
  by_cases h1 : n < 1
  · simp [ir12, h1, show ¬ (1 ≤ n) by omega]
  · by_cases h2 : n > 1048576
    · simp [ir12, h1, h2, show ¬ (n ≤ 1048576) by omega]
    · simp [ir12, h1, h2, show (1 ≤ n) by omega, show n ≤ 1048576 by omega, over]

theorem Len_spec {H : AH} {p : Nat} {R : PoolR} {S : List Nat} (h : IsPool 70 72 H p R S) : AFn Try.prog 20 [.pointer (some ⟨p, 0, none⟩)] H fun v H' => v = .int .i64 (IntKind.i64.wrap (R.xs.length - R.fs.length)) ∧ H' = H := by
  obtain ⟨sa, sc, fa, fc, Ss, Sf, h1, h2, h3, rfl, h5⟩ := h
  have hc := AH.cells_of h1
  refine AFn.enter mixed ir20_eq (by simp [ir20]) fun hw => ?_
  simp [ir20, hc]

theorem Get_spec {H : AH} {p : Nat} {R : PoolR} {S : List Nat} (h : IsPool 70 72 H p R S) (i : Int) : AFn Try.prog 17 [.pointer (some ⟨p, 0, none⟩), .int .i64 i] H fun v H' =>
    v = (match (if 0 ≤ i then R.xs[i.toNat]? else none) with
      | some (x, true) => .tuple #[x, .int .i64 0]
      | _ => .tuple #[.int .i64 0, .int .i64 11]) ∧ H' = H := by
  obtain ⟨sa, sc, fa, fc, Ss, Sf, h1, h2, h3, rfl, h5⟩ := h
  have hc := AH.cells_of h1
  refine AFn.enter mixed ir17_eq (by simp [ir17]) fun hw => ?_
  by_cases hi : i < 0
  · simp [ir17, hc, hi, show ¬ 0 ≤ i by omega]
  · obtain ⟨k, rfl⟩ : ∃ k : Nat, i = k := ⟨i.toNat, by omega⟩
    by_cases hk : R.xs.length ≤ k
    · have : R.xs[k]? = none := by simp [hk]
      simp [ir17, hc, this, show ¬ (k : Int) < 0 by omega, hk]
    · have hk : k < R.xs.length := by omega
      obtain ⟨b, off, sp, cap, cs, he, rfl, q1, q2, q3, q4, q5, q6, q7⟩ := h2.at (by omega)
      cases he
      have g := slotCells_get R.xs k
      have e1 : cs[off + k * 2]? = some (R.xs[k]).1 := by rw [q6 (k * 2) (by omega), g.1]; simp [hk]
      have e2 : cs[off + k * 2 + 1]? = some (.bool (R.xs[k]).2) := by rw [Nat.add_assoc, q6 (k * 2 + 1) (by omega), g.2]; simp [hk]
      have e3 : R.xs[k]? = some (R.xs[k]) := by simp [hk]
      simp only [Int.toNat_natCast, show (0:Int) ≤ k by omega, if_true, e3]
      generalize R.xs[k] = xu at *
      obtain ⟨x, u⟩ := xu
      cases u
      · simp [ir17, hc, q2, e1, e2, show ¬ (k : Int) < 0 by omega, show ¬ R.xs.length ≤ k by omega, show (k : Int) < R.xs.length by omega]
      · simp [ir17, hc, q2, e1, e2, show ¬ (k : Int) < 0 by omega, show ¬ R.xs.length ≤ k by omega, show (k : Int) < R.xs.length by omega]

theorem Put_spec {H : AH} {p : Nat} {R : PoolR} {S : List Nat} (h : IsPool 70 72 H p R S) (x : Value) (hx : one x = true) (hroom : R.xs.length < 1000000) (hfs : ∀ i ∈ R.fs, 0 ≤ i ∧ i < R.xs.length) (hle : R.fs.length ≤ R.xs.length) :
    AFn Try.prog 13 [.pointer (some ⟨p, 0, none⟩), x] H fun v H' =>
      if R.most ≤ R.xs.length - R.fs.length then H' = H ∧ v = .tuple #[.int .i64 0, .int .i64 10]
      else ∃ S', Keep S H H' ∧ (∀ b ∈ S', b ∈ S ∨ H.next ≤ b) ∧
        match R.fs.getLast? with
        | none => IsPool 70 72 H' p { R with xs := R.xs ++ [(x, true)] } S' ∧ v = .tuple #[.int .i64 R.xs.length, .int .i64 0]
        | some i => IsPool 70 72 H' p { R with xs := R.xs.set i.toNat (x, true), fs := R.fs.dropLast } S' ∧ v = .tuple #[.int .i64 i, .int .i64 0] := by
  have hlen := Len_spec h
  obtain ⟨sa, sc, fa, fc, Ss, Sf, h1, h2, h3, rfl, h5⟩ := h
  have hc := AH.cells_of h1
  refine AFn.enter mixed ir13_eq (by simp [ir13]) fun hw => ?_
  simp [ir13, hc]
  refine AFnD.of hlen ?_
  have hl : IntKind.i64.wrap (R.xs.length - R.fs.length) = R.xs.length - R.fs.length := IntWalk.i64_in _ (by omega)
  by_cases hm : R.most ≤ R.xs.length - R.fs.length
  · simp [hc, hl, hm]
  · by_cases hf : R.fs = []
    · obtain ⟨a', c', H', S', q1, q2, q3, q4, q5⟩ := h2.push hw 72 16 1 [x, .bool true] rfl (by omega) (by omega)
      obtain ⟨h5, h6, h7⟩ := h5
      have hSf := h3.lt hw
      have hSs := h2.lt hw
      have hp := hw.lt h1
      have hb' : H'.blk p = _ := (q3.blk p hp h5).trans h1
      have hc' := AH.cells_of hb'
      have e0 : (H.alloc (.row [x, .bool true] 72 true)).cells p = some [Value.int IntKind.i64 R.most, Value.slice sa R.xs.length sc, Value.slice fa R.fs.length fc] := by rw [AH.cells_alloc_ne (Nat.ne_of_lt hp), hc]
      have hm' : ¬ R.most ≤ R.xs.length := by simpa [hf] using hm
      simp (disch := omega) [hc, hm', hf, hx, cellsOf_one hx, elemsA, cut, e0, q1, writeA_row hb', IntWalk.i64_in]
      refine ⟨(q3.mono (by grind)).trans' (Keep.set (by simp)), p :: (S' ++ Sf), by grind, a', c', fa, fc, S', Sf, by simp [hf], ?_, ?_, rfl, by grind⟩
      · simp only [List.length_append, List.length_singleton, slotCells_append]
        exact q2.keep fun b hb => AH.set_blk_ne (by grind)
      · rw [hf] at h3
        exact (h3.kept hw q3 (by grind)).keep fun b hb => AH.set_blk_ne (by grind)
    · obtain ⟨ys, i, hy⟩ : ∃ ys i, R.fs = ys ++ [i] := ⟨R.fs.dropLast, R.fs.getLast hf, (List.dropLast_concat_getLast hf).symm⟩
      obtain ⟨k, rfl⟩ : ∃ k : Nat, i = k := ⟨i.toNat, by have := hfs i (by simp [hy]); omega⟩
      have hk : k < R.xs.length := by have := hfs k (by simp [hy]); omega
      obtain ⟨most, xs, fs⟩ := R
      simp only at *
      subst hy
      simp only [List.length_append, List.length_singleton] at *
      obtain ⟨h5, h6, h7⟩ := h5
      obtain ⟨b, off, sp, cap, cs, he, rfl, q1, q2, q3, q4, q5, q6, q7⟩ := h2.at (by omega)
      cases he
      obtain ⟨b', off', sp', cap', cs', he', rfl, r1, r2, r3, r4, r5, r6, r7⟩ := h3.at (by simp)
      cases he'
      have hp := hw.lt h1
      have e1 : cs'[off' + ys.length]? = some (.int .i64 k) := by rw [r6 ys.length (by simp)]; simp
      have hbp : b ≠ p := by grind
      have hbp' : p ≠ b := by grind
      have hb'p : b' ≠ p := by grind
      have hbb : b ≠ b' := by grind
      obtain ⟨w1, w2, _⟩ := Own.write (k := k * 2) (news := [x, .bool true]) h2 q1 (by simp; omega)
      have w3 := h3.first (k := ys.length) (by simp)
      have e3 : ((ys ++ [(k : Int)]).map (Value.int .i64)).take (ys.length * 1) = ys.map (Value.int .i64) := by simp
      rw [e3] at w3
      have hm' : ¬ most ≤ (xs.length : Int) - (ys.length + 1) := by simpa using hm
      rcases r5 with rfl | rfl
      all_goals
        simp (disch := omega) [-getElem?_pos, if_pos, if_neg, decide_eq_true, decide_eq_false, hc, hx, cellsOf_one hx, elemsA, cut, IntWalk.i64_in, r2, e1, writeA, h1, q1]
        refine ⟨(Keep.set (by simp)).trans' (Keep.set (by simp)), p :: ([b] ++ [b']), by grind, some ⟨b, off, sp⟩, sc, some ⟨b', off', _⟩, fc, [b], [b'], (AH.set_blk_ne hbp').trans (by simp; rfl), ?_, ?_, rfl, by grind⟩
        · rw [slotCells_set _ _ _ _ hk] at w2
          simp only [List.length_set]
          exact w2.keep fun c hc => by simp at hc; subst hc; simp
        · exact w3.keep fun c hc => by simp at hc; subst hc; rw [AH.set_blk_ne (Ne.symm hbb), AH.set_blk_ne hb'p]

theorem Take_spec {H : AH} {p : Nat} {R : PoolR} {S : List Nat} (h : IsPool 70 72 H p R S) (i : Int) (hroom : R.fs.length < 1000000) :
    AFn Try.prog 15 [.pointer (some ⟨p, 0, none⟩), .int .i64 i] H fun v H' =>
      match (if 0 ≤ i then R.xs[i.toNat]? else none) with
      | some (x, true) => ∃ S', Keep S H H' ∧ (∀ b ∈ S', b ∈ S ∨ H.next ≤ b) ∧ IsPool 70 72 H' p { R with xs := R.xs.set i.toNat (.int .i64 0, false), fs := R.fs ++ [i] } S' ∧ v = .tuple #[x, .int .i64 0]
      | _ => H' = H ∧ v = .tuple #[.int .i64 0, .int .i64 11] := by
  have hget := Get_spec h i
  refine AFn.enter mixed ir15_eq (by simp [ir15]) fun hw => ?_
  simp [ir15]
  refine AFn.pure hget ?_
  generalize hg : (if 0 ≤ i then R.xs[i.toNat]? else none) = g at *
  match g with
  | none => simp
  | some (x, false) => simp
  | some (x, true) =>
    obtain ⟨most, xs, fs⟩ := R
    simp only at *
    obtain ⟨k, rfl⟩ : ∃ k : Nat, i = k := ⟨i.toNat, by split at hg <;> simp_all <;> omega⟩
    simp only [Int.toNat_natCast, show (0:Int) ≤ k by omega, if_true] at hg
    have hk : k < xs.length := by simpa using (List.getElem?_eq_some_iff.1 hg).1
    obtain ⟨sa, sc, fa, fc, Ss, Sf, h1, h2, h3, rfl, h5, h6, h7⟩ := h
    simp only at h1 h2 h3
    have hc := AH.cells_of h1
    obtain ⟨b, off, sp, cap, cs, he, rfl, q1, q2, q3, q4, q5, q6, q7⟩ := h2.at (by omega)
    cases he
    have hp := hw.lt h1
    have hbp : b ≠ p := by grind
    have hbp' : p ≠ b := by grind
    obtain ⟨w1, w2, _⟩ := Own.write (k := k * 2) (news := [.int .i64 0, .bool false]) h2 q1 (by simp only [List.length_cons, List.length_nil]; omega)
    have hw2 := hw.set (B := .row (over cs (off + k * 2) [.int .i64 0, .bool false]) 72 true) (hw.lt q1)
    have h3' : Own (H.set b (.row (over cs (off + k * 2) [.int .i64 0, .bool false]) 72 true)) 3 1 (.slice fa fs.length fc) fs.length (fs.map (.int .i64)) Sf := h3.keep fun c hc => AH.set_blk_ne (by grind)
    obtain ⟨a', c', H', S', r1, r2, r3, r4, r5⟩ := h3'.push hw2 3 8 1 [.int .i64 k] rfl (by omega) (by omega)
    simp only [AH.set_next] at r5
    have hSf := h3.lt hw
    have hbl := hw.lt q1
    have hb' : H'.blk p = _ := ((r3.blk p hp h6).trans (AH.set_blk_ne hbp')).trans h1
    simp (disch := omega) [-getElem?_pos, if_pos, if_neg, decide_eq_true, decide_eq_false, hc, q2, elemsA, cut, IntWalk.i64_in, writeA, h1, q1, hb', r1]
    refine ⟨((Keep.set (S := p :: b :: Sf) (by simp)).trans' (r3.mono (by grind))).trans' (Keep.set (by simp)), p :: ([b] ++ S'), by grind, some ⟨b, off, sp⟩, sc, a', c', [b], S', by simp, ?_, ?_, rfl, by grind⟩
    · rw [slotCells_set _ _ _ _ hk] at w2
      simp only [List.length_set]
      exact (w2.kept hw2 r3 (by grind)).keep fun c hc => by simp at hc; subst hc; simp [hbp]
    · simp only [List.length_append, List.length_singleton, List.map_append, List.map_cons, List.map_nil]
      exact r2.keep fun c hc => AH.set_blk_ne (by grind)

theorem New_my {n : Int} (H : AH) (h : 1 ≤ n ∧ n ≤ 1048576) : AFn Try.prog 12 [.int .i64 n] H fun v H' => ∃ p, MyPool 70 72 H H' p ⟨n, [], []⟩ ∧ v = .tuple #[.pointer (some ⟨p, 0, none⟩), .int .i64 0] := by
  refine (New_spec n H).mono fun v H' hq => ?_
  rw [if_pos h] at hq
  obtain ⟨rfl, rfl⟩ := hq
  refine ⟨H.next, ⟨[H.next], ⟨none, 0, none, 0, [], [], by simp, .nil, .nil, rfl, by simp⟩, by simp, .alloc⟩, rfl⟩

theorem Put_my {H0 H : AH} {p : Nat} {R : PoolR} (h : MyPool 70 72 H0 H p R) (x : Value) (hx : one x = true) (hk : R.ok) :
    AFn Try.prog 13 [.pointer (some ⟨p, 0, none⟩), x] H fun v H' => MyPool 70 72 H0 H' p (if R.full then R else (R.put x).1) ∧ v = (if R.full then .tuple #[.int .i64 0, .int .i64 10] else .tuple #[.int .i64 (R.put x).2, .int .i64 0]) := by
  obtain ⟨S, h1, h2, h3⟩ := h
  refine (Put_spec h1 x hx hk.few hk.free hk.le).mono fun v H' hq => ?_
  unfold PoolR.full
  by_cases hm : R.most ≤ R.xs.length - R.fs.length
  · rw [if_pos hm] at hq
    obtain ⟨rfl, rfl⟩ := hq
    simp [hm]
    exact ⟨S, h1, h2, h3⟩
  · rw [if_neg hm] at hq
    obtain ⟨S', q1, q2, q3⟩ := hq
    have hk' : Keep [] H0 H' := h3.trans q1 (fun b hb hlt => by have := h2 b hb; omega)
    have hS' : ∀ b ∈ S', H0.next ≤ b := fun b hb => by
      rcases q2 b hb with h | h
      · exact h2 b h
      · exact Nat.le_trans h3.next h
    simp only [hm, decide_false, Bool.false_eq_true, if_false]
    unfold PoolR.put
    split at q3 <;> rename_i hl <;> rw [hl] <;> exact ⟨⟨S', q3.1, hS', hk'⟩, q3.2⟩

theorem Take_my {H0 H : AH} {p : Nat} {R : PoolR} (h : MyPool 70 72 H0 H p R) (i : Int) (hr : R.fs.length < 1000000) :
    AFn Try.prog 15 [.pointer (some ⟨p, 0, none⟩), .int .i64 i] H fun v H' => MyPool 70 72 H0 H' p (if (R.at i).isSome then R.drop (.int .i64 0) i else R) ∧ v = (match R.at i with
      | some x => .tuple #[x, .int .i64 0]
      | none => .tuple #[.int .i64 0, .int .i64 11]) := by
  obtain ⟨S, h1, h2, h3⟩ := h
  refine (Take_spec h1 i hr).mono fun v H' hq => ?_
  unfold PoolR.at
  generalize (if 0 ≤ i then R.xs[i.toNat]? else none) = g at *
  match g with
  | none => obtain ⟨rfl, rfl⟩ := hq; exact ⟨⟨S, h1, h2, h3⟩, rfl⟩
  | some (x, false) => obtain ⟨rfl, rfl⟩ := hq; exact ⟨⟨S, h1, h2, h3⟩, rfl⟩
  | some (x, true) =>
    obtain ⟨S', q1, q2, q3, rfl⟩ := hq
    refine ⟨⟨S', q3, fun b hb => ?_, h3.trans q1 (fun b hb hlt => by have := h2 b hb; omega)⟩, rfl⟩
    rcases q2 b hb with h | h
    · exact h2 b h
    · exact Nat.le_trans h3.next h

theorem Get_my {H0 H : AH} {p : Nat} {R : PoolR} (h : MyPool 70 72 H0 H p R) (i : Int) :
    AFn Try.prog 17 [.pointer (some ⟨p, 0, none⟩), .int .i64 i] H fun v H' => v = (match R.at i with
      | some x => .tuple #[x, .int .i64 0]
      | none => .tuple #[.int .i64 0, .int .i64 11]) ∧ H' = H := by
  obtain ⟨S, h1, h2, h3⟩ := h
  refine (Get_spec h1 i).mono fun v H' hq => ?_
  obtain ⟨rfl, rfl⟩ := hq
  unfold PoolR.at
  generalize (if 0 ≤ i then R.xs[i.toNat]? else none) = g at *
  match g with
  | none => exact ⟨rfl, rfl⟩
  | some (x, false) => exact ⟨rfl, rfl⟩
  | some (x, true) => exact ⟨rfl, rfl⟩

theorem Len_my {H0 H : AH} {p : Nat} {R : PoolR} (h : MyPool 70 72 H0 H p R) : AFn Try.prog 20 [.pointer (some ⟨p, 0, none⟩)] H fun v H' => v = .int .i64 (IntKind.i64.wrap (R.xs.length - R.fs.length)) ∧ H' = H :=
  let ⟨_, h1, _⟩ := h
  Len_spec h1

end PoolL
end Go.Proofs.Ytakdkbdjjlmccaa

