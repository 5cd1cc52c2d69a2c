/-
  BruteOver: the walk.
-/
import Derived.Test.YtlcddhgfkkjhkaaBrute1
import Derived.Test.YtlcddhgfkkjhkaaWakes
set_option maxRecDepth 100000
set_option linter.unusedSimpArgs false
set_option linter.unusedVariables false
namespace Go.Abs
open Go
open Ren (R)
theorem zeros_chunk (z : List Value) : ∀ (n i : Nat), i < n → chunk z.length i (zeros z n) = z
  | 0, i, h => by omega
  | n + 1, 0, _ => by simp [chunk, zeros]
  | n + 1, i + 1, h => by
    have := zeros_chunk z n i (by omega)
    unfold chunk at this ⊢
    rw [zeros, Nat.succ_mul, Nat.add_comm, ← List.drop_drop, List.drop_left]
    exact this
theorem zeros_len' (z : List Value) : ∀ n, (zeros z n).length = n * z.length
  | 0 => by simp [zeros]
  | n + 1 => by simp [zeros, zeros_len' z n, Nat.succ_mul]; omega
/-- A new slice of zeros. -/
theorem SlV.zeros {α : Type} [Ren α] {p : Nat → Prop} {H : AH} {q : Nat} {z : List Value} {n : Nat} {a : α} (hc : H.cells q = some (zeros z n)) (hp : p q) (hz : R p H z a) (hn : n ≤ 9223372036854775807) : SlV p H (.slice (some ⟨q, 0, none⟩) n n) (List.replicate n a) := by
  have hl := Ren.len hz
  have hzl := zeros_len' z n
  refine ⟨⟨by rw [List.length_replicate]; exact hn, .of (.inl rfl)⟩, Abs.zeros z n, ?_, fun i hi => ?_⟩
  · rw [List.length_replicate]
    refine ⟨by rw [hzl, hl], .inr ⟨q, 0, none, n, Abs.zeros z n, rfl, Nat.le_refl _, .inl rfl, hc, ?_, hp⟩⟩
    rw [cut_eq (by rw [hzl, hl]; omega), List.drop_zero, List.take_of_length_le (by rw [hzl, hl]; omega)]
  · simp at hi
    have h1 := zeros_chunk z n i hi
    rw [hl] at h1
    rw [h1]
    simpa using hz
end Go.Abs
namespace Go.Proofs.Ytlcddhgfkkjhkaa
open Go Go.Abs
open Go.Abs.Ren (R)

theorem prod2 : ∀ k, k < 40 → prodI (fun _ => 2) k = if k ≤ 20 then ((2 ^ k : Nat) : Int) else 1048577 := by decide

theorem over_count (k : Nat) (hk : k < 40) (x : InstD) (h : x.Ok) (hkd : x.kind = 0 ∨ x.kind = 3) (hn : x.n = k) : x.count = (if k ≤ 20 then ((2 ^ k : Nat) : Int) else 0) ∧ x.countE = if k ≤ 20 then 0 else 24 := by
  have hm : x.many = if k ≤ 20 then ((2 ^ k : Nat) : Int) else 1048577 := by
    unfold InstD.many
    simp only [hkd, if_true, hn, Int.toNat_natCast]
    exact prod2 k hk
  have hp : k ≤ 20 → 2 ^ k ≤ 1048576 := fun h => Nat.pow_le_pow_right (by omega) h
  unfold InstD.count InstD.countE
  rw [if_pos (InstD.check_ok.2 h), if_pos (InstD.check_ok.2 h), hm]
  by_cases hk2 : k ≤ 20
  · have := hp hk2
    simp only [hk2, if_true]
    rw [if_neg (by omega), if_neg (by omega)]; exact ⟨rfl, rfl⟩
  · simp only [hk2, if_false]
    rw [if_pos (by omega), if_pos (by omega)]; exact ⟨rfl, rfl⟩

theorem BruteOver_abs {H : AH} (n : Int) (hn : 0 ≤ n ∧ n < 256) (c : Bool) : AFn Try.prog F_law13_BruteOver [.int .u8 n, .bool c] H fun u H' => u = .bool true ∧ H' = H := by
  refine AFn.calm (fun H0 hs => ?_) rfl
  refine AFn.enter mixed ir_law13_BruteOver_eq (by simp [ir_law13_BruteOver]) fun hw => ?_
  obtain ⟨k, hk⟩ : ∃ k : Nat, n.tmod 40 = (k : Int) := ⟨(n.tmod 40).toNat, by rw [Int.tmod_eq_emod_of_nonneg hn.1]; omega⟩
  have hk40 : k < 40 := by rw [Int.tmod_eq_emod_of_nonneg hn.1] at hk; omega
  have hpk : 2 ^ k < 2 ^ 40 := Nat.pow_lt_pow_right (by omega) hk40
  have e1 : IntKind.i64.wrap (k : Int) = (k : Int) := IntWalk.i64_in _ (by omega)
  have fin : ∀ (v : Value) (H2 : AH) (x : InstD), InstV Ty H2 v x → x.Ok → (x.kind = 0 ∨ x.kind = 3) → x.n = k → AFn Try.prog F_brute_Count [v] H2 fun u H' => u = .tuple #[.int .i64 (if k ≤ 20 then ((2 ^ k : Nat) : Int) else 0), .int .i64 (if k ≤ 20 then 0 else 24)] ∧ H' = H2 := fun v H2 x hx ho hkd hxn => by
    obtain ⟨q1, q2⟩ := over_count k hk40 x ho hkd hxn
    rw [← q1, ← q2]
    exact Count_spec hx
  have e3 : IntKind.i64.wrap ((2 : Int) ^ (min k IntKind.i64.bits)) = (2 : Int) ^ k := by
    rw [show min k IntKind.i64.bits = k from Nat.min_eq_left (by show k ≤ 64; omega)]
    have : (2 : Int) ^ k = ((2 ^ k : Nat) : Int) := by simp
    rw [this]
    have h9 : 2 ^ k < 1099511627776 := hpk
    generalize 2 ^ k = m at h9 ⊢
    exact IntWalk.i64_in _ (by omega)
  cases c with
  | false =>
    simp (disch := omega) [-getElem?_pos, if_pos, if_neg, decide_eq_true, decide_eq_false, ir_law13_BruteOver, hk, e1, writeA, over]
    generalize hH2 : AH.set _ _ _ = H2
    have hx : InstV Ty H2 (.agg #[.int .i64 0, .int .i64 0, .slice (some ⟨H0.next, 0, none⟩) k k, .slice none 0 0, .int .i64 0, .slice none 0 0]) ⟨0, 0, List.replicate k (0, 0), [], 0, []⟩ := by
      refine ⟨_, _, _, rfl, by simp [I64], by simp [I64], by simp [I64], SlV.zeros (z := [.int .i64 0, .int .i64 0]) (by rw [← hH2]; simp) trivial ⟨rfl, by simp [I64], by simp [I64]⟩ (by omega), .nil, .nil⟩
    have ho : InstD.Ok ⟨0, 0, List.replicate k (0, 0), [], 0, []⟩ := by
      refine ⟨by simp, by simp, ⟨by simp, by simp, by simp⟩, ⟨by simp, by simp; omega, by simp, by simp, by simp⟩, ⟨by simp, by simp⟩, ⟨by simp [Mag], by simp [Mag], by simp, by simp⟩, by simp [InstD.Bare]⟩
    have hxn : InstD.n ⟨0, 0, List.replicate k (0, 0), [], 0, []⟩ = k := by unfold InstD.n; rw [if_pos (InstD.check_ok.2 ho)]; simp
    have hc2 : H2.cells (H0.next + 1) = some [.int .i64 0, .int .i64 0, .slice (some ⟨H0.next, 0, none⟩) k k, .slice none 0 0, .int .i64 0, .slice none 0 0] := by rw [← hH2]; simp
    simp (disch := omega) [-getElem?_pos, if_pos, if_neg, decide_eq_true, decide_eq_false, hc2, cut]
    refine AFn.pure (fin _ _ _ hx ho (.inl rfl) hxn) ?_
    by_cases hk2 : k ≤ 20
    · simp (disch := omega) [-getElem?_pos, if_pos, if_neg, decide_eq_true, decide_eq_false, hk2]
      refine AFn.pure wakes13_spec ?_
      simp (disch := omega) [-getElem?_pos, if_pos, if_neg, decide_eq_true, decide_eq_false, e3]
    · simp (disch := omega) [-getElem?_pos, if_pos, if_neg, decide_eq_true, decide_eq_false, hk2]
      refine AFn.pure wakes13_spec ?_
      simp (disch := omega) [-getElem?_pos, if_pos, if_neg, decide_eq_true, decide_eq_false, ]
  | true =>
    simp (disch := omega) [-getElem?_pos, if_pos, if_neg, decide_eq_true, decide_eq_false, ir_law13_BruteOver, hk, e1, writeA, over]
    generalize hH2 : AH.set _ _ _ = H2
    have hx : InstV Ty H2 (.agg #[.int .i64 3, .int .i64 0, .slice none 0 0, .slice none 0 0, .int .i64 0, .slice (some ⟨H0.next + 1 + 1, 0, none⟩) k k]) ⟨3, 0, [], [], 0, List.replicate k ⟨0, []⟩⟩ := by
      refine ⟨_, _, _, rfl, by simp [I64], by simp [I64], by simp [I64], .nil, .nil, SlV.zeros (z := [.int .i64 0, .slice none 0 0]) (by rw [← hH2]; simp) trivial ⟨_, rfl, by simp [I64], .nil⟩ (by omega)⟩
    have ho : InstD.Ok ⟨3, 0, [], [], 0, List.replicate k ⟨0, []⟩⟩ := by
      refine ⟨by simp, by simp, ⟨by simp, by simp, by simp⟩, ⟨by simp, by simp, by simp; omega, by simp, by simp⟩, ⟨by simp, by simp [Rises]⟩, ⟨by simp [Mag], by simp, by simp, by simp [Mag]⟩, by simp [InstD.Bare]⟩
    have hxn : InstD.n ⟨3, 0, [], [], 0, List.replicate k ⟨0, []⟩⟩ = k := by unfold InstD.n; rw [if_pos (InstD.check_ok.2 ho)]; simp
    have hc2 : H2.cells (H0.next + 1) = some [.int .i64 3, .int .i64 0, .slice none 0 0, .slice none 0 0, .int .i64 0, .slice (some ⟨H0.next + 1 + 1, 0, none⟩) k k] := by rw [← hH2]; simp
    simp (disch := omega) [-getElem?_pos, if_pos, if_neg, decide_eq_true, decide_eq_false, hc2, cut]
    refine AFn.pure (fin _ _ _ hx ho (.inr rfl) hxn) ?_
    by_cases hk2 : k ≤ 20
    · simp (disch := omega) [-getElem?_pos, if_pos, if_neg, decide_eq_true, decide_eq_false, hk2]
      refine AFn.pure wakes13_spec ?_
      simp (disch := omega) [-getElem?_pos, if_pos, if_neg, decide_eq_true, decide_eq_false, e3]
    · simp (disch := omega) [-getElem?_pos, if_pos, if_neg, decide_eq_true, decide_eq_false, hk2]
      refine AFn.pure wakes13_spec ?_
      simp (disch := omega) [-getElem?_pos, if_pos, if_neg, decide_eq_true, decide_eq_false, ]
end Go.Proofs.Ytlcddhgfkkjhkaa
