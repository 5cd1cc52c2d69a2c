/-
  Layer 15: how many states there are at most: the program's answer and the document's.
-/
import Derived.Test.YtlcddhgfkkjhkaaDoorNum3
import Derived.Test.YtlcddhgfkkjhkaaDoorIrT
set_option maxRecDepth 100000
set_option linter.unusedSimpArgs false
set_option linter.unusedVariables false
namespace Go.Abs
open Go Go.Proofs.YtlcddhgfkkjhkaaDoor
def prd (f : Nat → Nat) : Nat → Nat
  | 0 => 1
  | j + 1 => prd f j * f j
def smF (f : Nat → Nat) : Nat → Nat
  | 0 => 1
  | j + 1 => smF f j + prd f (j + 1)
theorem smF_mono (f : Nat → Nat) {i j : Nat} (h : i ≤ j) : smF f i ≤ smF f j := by
  induction j with
  | zero => obtain rfl : i = 0 := by omega
            exact Nat.le_refl _
  | succ j ih =>
    by_cases hi : i = j + 1
    · subst hi; exact Nat.le_refl _
    · have := ih (by omega)
      simp only [smF]; omega
theorem prd_le_smF (f : Nat → Nat) (j : Nat) : prd f j ≤ smF f j := by
  cases j with
  | zero => simp [prd, smF]
  | succ j => simp only [smF]; omega
theorem prd_up {f : Nat → Nat} {c : Nat} : ∀ {j : Nat}, (∀ i, i < j → f i ≤ c) → prd f j ≤ c ^ j
  | 0, _ => by simp [prd]
  | j + 1, h => by
    rw [prd, Nat.pow_succ]
    exact Nat.mul_le_mul (prd_up fun i hi => h i (by omega)) (h j (by omega))
theorem prd_low {f : Nat → Nat} {c : Nat} : ∀ {j : Nat}, (∀ i, i < j → c ≤ f i) → c ^ j ≤ prd f j
  | 0, _ => by simp [prd]
  | j + 1, h => by
    rw [prd, Nat.pow_succ]
    exact Nat.mul_le_mul (prd_low fun i hi => h i (by omega)) (h j (by omega))
theorem smF_up {f : Nat → Nat} {c : Nat} : ∀ {j : Nat}, (∀ i, i < j → f i ≤ c) → smF f j ≤ (c + 1) ^ j
  | 0, _ => by simp [smF]
  | j + 1, h => by
    have h1 := smF_up (j := j) fun i hi => h i (by omega)
    have h2 := prd_up (j := j + 1) h
    have h3 : c ^ j ≤ (c + 1) ^ j := Nat.pow_le_pow_left (by omega) j
    rw [smF, Nat.pow_succ, Nat.mul_add, Nat.mul_one]
    rw [Nat.pow_succ] at h2
    have h4 := Nat.mul_le_mul_right c h3
    omega
theorem smF_two (j : Nat) : smF (fun _ => 2) j + 1 = prd (fun _ => 2) (j + 1) := by
  induction j with
  | zero => rfl
  | succ j ih =>
    have : prd (fun _ => 2) (j + 1 + 1) = prd (fun _ => 2) (j + 1) * 2 := rfl
    rw [smF, this]; omega
theorem smF_two_step (j : Nat) : smF (fun _ => 2) (j + 1) = 2 * smF (fun _ => 2) j + 1 := by
  have := smF_two j
  rw [smF]; omega
theorem smF_pos (f : Nat → Nat) (j : Nat) : 1 ≤ smF f j := by
  have := smF_mono f (Nat.zero_le j)
  exact this
def szF (k : Int) (n : Nat) : Nat → Nat := if k = 0 ∨ k = 3 then fun _ => 2 else fun j => n - j
def szT (k : Int) (n : Nat) : Nat := smF (szF k n) n
theorem fits_nat {a : Nat} : fitsI (a : Int) = decide (a ≤ 9223372036854775807) := by
  unfold fitsI
  exact decide_eq_decide.2 (by omega)
theorem szT_big {k : Int} {n : Nat} (h : 64 < n) : fitsI (szT k n : Int) = false := by
  rw [fits_nat]
  refine decide_eq_false fun hc => ?_
  unfold szT at hc
  have h1 := smF_mono (szF k n) (show 12 ≤ n by omega)
  have h2 := prd_le_smF (szF k n) 12
  by_cases hk : k = 0 ∨ k = 3
  · have h3 := smF_mono (szF k n) (show 64 ≤ n by omega)
    have h4 := prd_le_smF (szF k n) 64
    have h5 := prd_low (f := szF k n) (c := 2) (j := 64) fun i _ => by unfold szF; rw [if_pos hk]; exact Nat.le_refl _
    have h6 : (2 : Nat) ^ 64 = 18446744073709551616 := by decide
    omega
  · have h5 := prd_low (f := szF k n) (c := 53) (j := 12) fun i hi => by unfold szF; rw [if_neg hk]; show 53 ≤ n - i; omega
    have h6 : (53 : Nat) ^ 12 = 491258904256726154641 := by decide
    omega
theorem bdig_65 {a : Nat} (h : a ≤ 65 ^ 64) : (bdig a).length ≤ 1000 := by
  have : (65 : Nat) ^ 64 < 65536 ^ 25 := by decide
  have := bdig_len (n := a) (m := 25) (by omega)
  omega
end Go.Abs
namespace Go.Proofs.YtlcddhgfkkjhkaaDoor
open Go Go.Abs
def TwI (H : AH) (n : Int) (k : Nat) (env : Env) (H' : AH) : Prop :=
  H' = H ∧ env 10 = some (.int .i64 n) ∧ env 11 = some (.int .i64 k) ∧ env 4 = some (.int .i64 (smF (fun _ => 2) k)) ∧ env 5 = some (.bool true) ∧ smF (fun _ => 2) k ≤ 9223372036854775807
def SzQ (H : AH) (f : Nat → Nat) (n : Nat) (c a b : Nat) (e : AExit) (env : Env) (H' : AH) : Prop :=
  H' = H ∧ ((e = .exit 0 ∧ env c = some (.int .i64 (smF f n)) ∧ smF f n ≤ 9223372036854775807) ∨ (e = .ret ∧ env a = some (.int .i64 0) ∧ env b = some (.bool false) ∧ 9223372036854775807 < smF f n))
def TwQ (H : AH) (n : Nat) (e : AExit) (env : Env) (H' : AH) : Prop := SzQ H (fun _ => 2) n 4 2 3 e env H' ∧ (e = .exit 0 → env 5 = some (.bool true))
theorem twos_l0 {H : AH} {n : Nat} (hn : n ≤ 9223372036854775807) {env : Env} (h : TwI H n 0 env H) : wpC Tryd.prog 33 (.loop ir_tree_twos_l0) (TwQ H n) env H := by
  refine loop_upto n (TwI H n) (Q := TwQ H n) h ?_
  rintro k env H' hk ⟨rfl, e10, e11, e4, e5, hf⟩
  by_cases hkn : k < n
  · have hM := MulI_spec (H := H') (a := (smF (fun _ => 2) k : Int)) (b := 2) (by unfold I64; omega) (by unfold I64; omega)
    have hst := smF_two_step k
    have hmo := smF_mono (fun _ => 2) (show k + 1 ≤ n by omega)
    have hpos := smF_pos (fun _ => 2) k
    have hrd : ∀ env2 : Env, env2 10 = some (.int .i64 n) → env2 11 = some (.int .i64 ((k : Int) + 1)) → env2 4 = some (.int .i64 (2 * (smF (fun _ => 2) k : Int) + 1)) → env2 5 = some (.bool true) → smF (fun _ => 2) (k + 1) ≤ 9223372036854775807 → TwI H' n (k + 1) env2 H' := fun env2 f10 f11 f4 f5 hle =>
      ⟨rfl, f10, by rw [f11]; simp, by rw [f4, hst]; simp, f5, hle⟩
    have hbad : 9223372036854775807 < smF (fun _ => 2) (k + 1) → 9223372036854775807 < smF (fun _ => 2) n := fun h => by omega
    generalize smF (fun _ => 2) (k + 1) = s1 at *
    generalize smF (fun _ => 2) k = s at *
    have hcm : (s : Int) * 2 = 2 * s := by omega
    rw [hcm] at hM
    simp (disch := omega) [-getElem?_pos, if_pos, if_neg, decide_eq_true, decide_eq_false, ir_tree_twos_l0, e10, e11, e4, e5, hkn]
    refine AFn.pure hM ?_
    by_cases h1 : s1 ≤ 9223372036854775807
    · have hf2 : fitsI (2 * (s : Int)) = true := by unfold fitsI; exact decide_eq_true (by omega)
      have hs2 : shortI (2 * (s : Int)) = 2 * s := by unfold shortI; rw [if_pos hf2]
      have hA := AddI_spec (H := H') (a := 2 * (s : Int)) (b := 1) (by unfold I64; omega) (by unfold I64; omega)
      have hf3 : fitsI (2 * (s : Int) + 1) = true := by unfold fitsI; exact decide_eq_true (by omega)
      have hs3 : shortI (2 * (s : Int) + 1) = 2 * s + 1 := by unfold shortI; rw [if_pos hf3]
      rw [hf3, hs3] at hA
      rw [hf2, hs2]
      simp (disch := omega) [-getElem?_pos, if_pos, if_neg, decide_eq_true, decide_eq_false, ]
      refine AFn.pure hA ?_
      simp (disch := omega) [-getElem?_pos, if_pos, if_neg, decide_eq_true, decide_eq_false, e10, e11, IntWalk.i64_in]
      refine ⟨hkn, hrd _ ?_ ?_ ?_ ?_ h1⟩ <;> simp [e10]
    · have hA := AddI_spec (H := H') (a := shortI (2 * (s : Int))) (b := 1) (by unfold I64 shortI fitsI; split <;> (rename_i h; simp at h; omega)) (by unfold I64; omega)
      have hff : fitsI (2 * (s : Int)) = true → fitsI (shortI (2 * (s : Int)) + 1) = false := fun h => by
        unfold shortI
        rw [if_pos h]
        unfold fitsI
        exact decide_eq_false (by omega)
      generalize shortI (2 * (s : Int)) = y at *
      generalize shortI (y + 1) = y1 at *
      generalize fitsI (y + 1) = b1 at *
      cases hb : fitsI (2 * (s : Int)) with
      | true =>
        have := hff hb
        subst this
        simp (disch := omega) [-getElem?_pos, if_pos, if_neg, decide_eq_true, decide_eq_false, ]
        refine AFn.pure hA ?_
        simp (disch := omega) [-getElem?_pos, if_pos, if_neg, decide_eq_true, decide_eq_false, e10, e11, IntWalk.i64_in]
        exact ⟨⟨rfl, .inr ⟨rfl, by simp, by simp, hbad (by omega)⟩⟩, by simp⟩
      | false =>
        simp (disch := omega) [-getElem?_pos, if_pos, if_neg, decide_eq_true, decide_eq_false, ]
        refine AFn.pure hA ?_
        simp (disch := omega) [-getElem?_pos, if_pos, if_neg, decide_eq_true, decide_eq_false, e10, e11, IntWalk.i64_in]
        exact ⟨⟨rfl, .inr ⟨rfl, by simp, by simp, hbad (by omega)⟩⟩, by simp⟩
  · obtain rfl : k = n := by omega
    simp (disch := omega) [-getElem?_pos, if_pos, if_neg, decide_eq_true, decide_eq_false, ir_tree_twos_l0, e10, e11, e4, e5]
    exact ⟨⟨rfl, .inl ⟨rfl, e4, hf⟩⟩, fun _ => e5⟩
def FlI (H : AH) (n k : Nat) (env : Env) (H' : AH) : Prop :=
  H' = H ∧ env 0 = some (.int .i64 n) ∧ env 11 = some (.int .i64 n) ∧ env 12 = some (.int .i64 k) ∧ env 4 = some (.int .i64 (smF (fun j => n - j) k)) ∧ env 5 = some (.int .i64 (prd (fun j => n - j) k)) ∧ smF (fun j => n - j) k ≤ 9223372036854775807
theorem falls_l0 {H : AH} {n : Nat} (hn : n ≤ 9223372036854775807) {env : Env} (h : FlI H n 0 env H) : wpC Tryd.prog 39 (.loop ir_tree_falls_l0) (SzQ H (fun j => n - j) n 4 2 3) env H := by
  refine loop_upto n (FlI H n) (Q := SzQ H (fun j => n - j) n 4 2 3) h ?_
  rintro k env H' hk ⟨rfl, e0, e11, e12, e4, e5, hf⟩
  have hps := prd_le_smF (fun j => n - j) k
  by_cases hkn : k < n
  · have hM := MulI_spec (H := H') (a := (prd (fun j => n - j) k : Int)) (b := (n : Int) - k) (by unfold I64; omega) (by unfold I64; omega)
    have hpr : ((prd (fun j => n - j) (k + 1) : Nat) : Int) = (prd (fun j => n - j) k : Int) * ((n : Int) - k) := by
      rw [prd, Int.natCast_mul]
      congr 1
      show ((n - k : Nat) : Int) = _
      omega
    have hss : smF (fun j => n - j) (k + 1) = smF (fun j => n - j) k + prd (fun j => n - j) (k + 1) := rfl
    have hmo := smF_mono (fun j => n - j) (show k + 1 ≤ n by omega)
    rw [← hpr] at hM
    have hrd : ∀ env2 : Env, env2 0 = some (.int .i64 n) → env2 11 = some (.int .i64 n) → env2 12 = some (.int .i64 ((k : Int) + 1)) → env2 4 = some (.int .i64 ((smF (fun j => n - j) k : Int) + (prd (fun j => n - j) (k + 1) : Nat))) → env2 5 = some (.int .i64 (prd (fun j => n - j) (k + 1) : Nat)) → smF (fun j => n - j) (k + 1) ≤ 9223372036854775807 → FlI H' n (k + 1) env2 H' := fun env2 f0 f11 f12 f4 f5 hle =>
      ⟨rfl, f0, f11, by rw [f12]; simp, by rw [f4, hss]; simp, f5, hle⟩
    have hbad : 9223372036854775807 < smF (fun j => n - j) (k + 1) → 9223372036854775807 < smF (fun j => n - j) n := fun h => by omega
    have hnk : IntKind.i64.wrap ((n : Int) - k) = (n : Int) - k := IntWalk.i64_in _ (by omega)
    clear hpr
    generalize smF (fun j => n - j) (k + 1) = s1 at *
    generalize smF (fun j => n - j) k = s at *
    generalize prd (fun j => n - j) (k + 1) = p1 at *
    generalize prd (fun j => n - j) k = p at *
    simp (disch := omega) [-getElem?_pos, if_pos, if_neg, decide_eq_true, decide_eq_false, ir_tree_falls_l0, e0, e11, e12, e4, e5, hkn, hnk]
    refine AFn.pure hM ?_
    by_cases h1 : s1 ≤ 9223372036854775807
    · have hf2 : fitsI (p1 : Int) = true := by unfold fitsI; exact decide_eq_true (by omega)
      have hs2 : shortI (p1 : Int) = p1 := by unfold shortI; rw [if_pos hf2]
      have hA := AddI_spec (H := H') (a := (s : Int)) (b := (p1 : Int)) (by unfold I64; omega) (by unfold I64; omega)
      have hf3 : fitsI ((s : Int) + p1) = true := by unfold fitsI; exact decide_eq_true (by omega)
      have hs3 : shortI ((s : Int) + p1) = s + p1 := by unfold shortI; rw [if_pos hf3]
      rw [hf3, hs3] at hA
      rw [hf2, hs2]
      simp (disch := omega) [-getElem?_pos, if_pos, if_neg, decide_eq_true, decide_eq_false, e4]
      refine AFn.pure hA ?_
      simp (disch := omega) [-getElem?_pos, if_pos, if_neg, decide_eq_true, decide_eq_false, e0, e11, e12, IntWalk.i64_in]
      refine ⟨hkn, hrd _ ?_ ?_ ?_ ?_ ?_ h1⟩ <;> simp [e0, e11]
    · have hA := AddI_spec (H := H') (a := (s : Int)) (b := shortI (p1 : Int)) (by unfold I64; omega) (by unfold I64 shortI fitsI; split <;> (rename_i h; simp at h; omega))
      have hff : fitsI (p1 : Int) = true → fitsI ((s : Int) + shortI (p1 : Int)) = false := fun h => by
        unfold shortI
        rw [if_pos h]
        unfold fitsI
        exact decide_eq_false (by omega)
      generalize shortI (p1 : Int) = y at *
      generalize shortI ((s : Int) + y) = y1 at *
      generalize fitsI ((s : Int) + y) = b1 at *
      cases hb : fitsI (p1 : Int) with
      | true =>
        have := hff hb
        subst this
        simp (disch := omega) [-getElem?_pos, if_pos, if_neg, decide_eq_true, decide_eq_false, e4]
        refine AFn.pure hA ?_
        simp (disch := omega) [-getElem?_pos, if_pos, if_neg, decide_eq_true, decide_eq_false, e0, e11, e12, IntWalk.i64_in]
        exact ⟨rfl, .inr ⟨rfl, by simp, by simp, hbad (by omega)⟩⟩
      | false =>
        simp (disch := omega) [-getElem?_pos, if_pos, if_neg, decide_eq_true, decide_eq_false, e4]
        refine AFn.pure hA ?_
        simp (disch := omega) [-getElem?_pos, if_pos, if_neg, decide_eq_true, decide_eq_false, e0, e11, e12, IntWalk.i64_in]
        exact ⟨rfl, .inr ⟨rfl, by simp, by simp, hbad (by omega)⟩⟩
  · obtain rfl : k = n := by omega
    simp (disch := omega) [-getElem?_pos, if_pos, if_neg, decide_eq_true, decide_eq_false, ir_tree_falls_l0, e0, e11, e12, e4, e5]
    exact ⟨rfl, .inl ⟨rfl, e4, hf⟩⟩
theorem szR (a : Nat) : (a ≤ 9223372036854775807 → shortI (a : Int) = a ∧ fitsI (a : Int) = true) ∧ (9223372036854775807 < a → shortI (a : Int) = 0 ∧ fitsI (a : Int) = false) := by
  constructor
  · intro h
    have hf : fitsI (a : Int) = true := by rw [fits_nat]; exact decide_eq_true h
    exact ⟨by unfold shortI; rw [if_pos hf], hf⟩
  · intro h
    have hf : fitsI (a : Int) = false := by rw [fits_nat]; exact decide_eq_false (by omega)
    exact ⟨by unfold shortI; rw [hf]; rfl, hf⟩
theorem twosT_spec {H : AH} {n : Nat} (hn : n ≤ 9223372036854775807) : AFn Tryd.prog F_tree_twos [.int .i64 n] H fun u H' => u = .tuple #[.int .i64 (shortI (smF (fun _ => 2) n)), .bool (fitsI (smF (fun _ => 2) n))] ∧ H' = H := by
  refine AFn.enter mixed ir_tree_twos_eq (by simp [ir_tree_twos]) fun hw => ?_
  have hz := szR (smF (fun _ => 2) n)
  simp (disch := omega) [-getElem?_pos, if_pos, if_neg, decide_eq_true, decide_eq_false, ir_tree_twos]
  refine wpC_use (twos_l0 hn ⟨rfl, by simp, by simp, by simp [smF], by simp, by simp [smF]⟩) ?_
  rintro e env2 H2 ⟨⟨rfl, ⟨rfl, e4, hle⟩ | ⟨rfl, e2, e3, hlt⟩⟩, e5⟩ hu
  · obtain ⟨z1, z2⟩ := hz.1 hle
    have e5 := e5 rfl
    rw [z1, z2]
    simp (disch := omega) [-getElem?_pos, if_pos, if_neg, decide_eq_true, decide_eq_false, e4, e5]
  · obtain ⟨z1, z2⟩ := hz.2 hlt
    rw [z1, z2]
    simp (disch := omega) [-getElem?_pos, if_pos, if_neg, decide_eq_true, decide_eq_false, e2, e3]
theorem fallsT_spec {H : AH} {n : Nat} (hn : n ≤ 9223372036854775807) : AFn Tryd.prog F_tree_falls [.int .i64 n] H fun u H' => u = .tuple #[.int .i64 (shortI (smF (fun j => n - j) n)), .bool (fitsI (smF (fun j => n - j) n))] ∧ H' = H := by
  refine AFn.enter mixed ir_tree_falls_eq (by simp [ir_tree_falls]) fun hw => ?_
  have hz := szR (smF (fun j => n - j) n)
  simp (disch := omega) [-getElem?_pos, if_pos, if_neg, decide_eq_true, decide_eq_false, ir_tree_falls]
  refine wpC_use (falls_l0 hn ⟨rfl, by simp, by simp, by simp, by simp [smF], by simp [prd], by simp [smF]⟩) ?_
  rintro e env2 H2 ⟨rfl, ⟨rfl, e4, hle⟩ | ⟨rfl, e2, e3, hlt⟩⟩ hu
  · obtain ⟨z1, z2⟩ := hz.1 hle
    rw [z1, z2]
    simp (disch := omega) [-getElem?_pos, if_pos, if_neg, decide_eq_true, decide_eq_false, e4]
  · obtain ⟨z1, z2⟩ := hz.2 hlt
    rw [z1, z2]
    simp (disch := omega) [-getElem?_pos, if_pos, if_neg, decide_eq_true, decide_eq_false, e2, e3]
def szV (k n : Int) : Value := if 0 ≤ n ∧ 0 ≤ k ∧ k ≤ 3 then .tuple #[.int .i64 (shortI (szT k n.toNat)), .bool (fitsI (szT k n.toNat))] else .tuple #[.int .i64 0, .bool false]
theorem TSize_spec {H : AH} {k n : Int} (hn : I64 n) : AFn Tryd.prog F_tree_Size [.int .i64 k, .int .i64 n] H fun u H' => u = szV k n ∧ H' = H := by
  refine AFn.enter mixed ir_tree_Size_eq (by simp [ir_tree_Size]) fun hw => ?_
  obtain ⟨n1, n2⟩ := hn
  unfold szV
  by_cases h0 : n < 0
  · rw [if_neg (by omega)]
    simp (disch := omega) [-getElem?_pos, if_pos, if_neg, decide_eq_true, decide_eq_false, ir_tree_Size, h0]
  · obtain ⟨m, rfl⟩ : ∃ m : Nat, n = m := ⟨n.toNat, by omega⟩
    have ht := twosT_spec (H := H) (n := m) (by omega)
    have hf := fallsT_spec (H := H) (n := m) (by omega)
    rw [Int.toNat_natCast]
    by_cases hk : k = 0 ∨ k = 3
    · rw [if_pos (by omega)]
      have hz : szT k m = smF (fun _ => 2) m := by unfold szT szF; rw [if_pos hk]
      rw [hz]
      generalize smF (fun _ => 2) m = s at *
      generalize shortI (s : Int) = x at *
      generalize fitsI (s : Int) = y at *
      by_cases k0 : k = 0
      · have k0T := eq_true k0
        simp (disch := omega) [-getElem?_pos, if_pos, if_neg, decide_eq_true, decide_eq_false, ir_tree_Size, h0, k0T]
        refine AFn.pure ht ?_
        simp (disch := omega) [-getElem?_pos, if_pos, if_neg, decide_eq_true, decide_eq_false, ]
      · have k0F := eq_false k0
        have k3T := eq_true (show k = 3 by omega)
        simp (disch := omega) [-getElem?_pos, if_pos, if_neg, decide_eq_true, decide_eq_false, ir_tree_Size, h0, k0F, k3T]
        refine AFn.pure ht ?_
        simp (disch := omega) [-getElem?_pos, if_pos, if_neg, decide_eq_true, decide_eq_false, ]
    · have hz : szT k m = smF (fun j => m - j) m := by unfold szT szF; rw [if_neg hk]
      have k0F := eq_false (show k ≠ 0 by omega)
      have k3F := eq_false (show k ≠ 3 by omega)
      by_cases k1 : k = 1
      · rw [if_pos (by omega), hz]
        generalize smF (fun j => m - j) m = s at *
        generalize shortI (s : Int) = x at *
        generalize fitsI (s : Int) = y at *
        have k1T := eq_true k1
        simp (disch := omega) [-getElem?_pos, if_pos, if_neg, decide_eq_true, decide_eq_false, ir_tree_Size, h0, k0F, k3F, k1T]
        refine AFn.pure hf ?_
        simp (disch := omega) [-getElem?_pos, if_pos, if_neg, decide_eq_true, decide_eq_false, ]
      · have k1F := eq_false k1
        by_cases k2 : k = 2
        · rw [if_pos (by omega), hz]
          generalize smF (fun j => m - j) m = s at *
          generalize shortI (s : Int) = x at *
          generalize fitsI (s : Int) = y at *
          have k2T := eq_true k2
          simp (disch := omega) [-getElem?_pos, if_pos, if_neg, decide_eq_true, decide_eq_false, ir_tree_Size, h0, k0F, k3F, k1F, k2T]
          refine AFn.pure hf ?_
          simp (disch := omega) [-getElem?_pos, if_pos, if_neg, decide_eq_true, decide_eq_false, ]
        · have k2F := eq_false k2
          rw [if_neg (by omega)]
          simp (disch := omega) [-getElem?_pos, if_pos, if_neg, decide_eq_true, decide_eq_false, ir_tree_Size, h0, k0F, k3F, k1F, k2F]
/-! ### the document's answer -/
def Off (q6 q7 q8 : Nat) : Nat → Prop := fun z => z ≠ q6 ∧ z ≠ q7 ∧ z ≠ q8
def RsI (q6 q7 q8 : Nat) (k : Int) (n : Nat) (j : Nat) (env : Env) (H' : AH) : Prop :=
  env 0 = some (.int .i64 k) ∧ env 1 = some (.int .i64 n) ∧ env 6 = some (.pointer (some ⟨q6, 0, none⟩)) ∧ env 7 = some (.pointer (some ⟨q7, 0, none⟩)) ∧ env 8 = some (.pointer (some ⟨q8, 0, none⟩)) ∧ env 9 = some (.int .i64 j) ∧ WF H' ∧
  ∃ d6 d7 d8, H'.blk q6 = some (.row [.bool false, d6] T_secateurref01_Big true) ∧ H'.blk (q7) = some (.row [.bool false, d7] T_secateurref01_Big true) ∧ H'.blk (q8) = some (.row [.bool false, d8] T_secateurref01_Big true) ∧
    BigV (Off q6 q7 q8) H' (.agg #[.bool false, d6]) (smF (szF k n) j) ∧ BigV (Off q6 q7 q8) H' (.agg #[.bool false, d7]) (prd (szF k n) j) ∧ BigV (Off q6 q7 q8) H' (.agg #[.bool false, d8]) 2
theorem nat_big {p : Nat → Prop} {H : AH} {v : Value} {n : Nat} (h : BigV p H v n) : ∃ d, v = .agg #[.bool false, d] ∧ one d = true ∧ cellsOf d = some [d] := by
  obtain ⟨d, h1, h2⟩ := h
  rw [decide_eq_false (show ¬ (n : Int) < 0 by omega)] at h1
  exact ⟨d, h1, h2.cell.1, h2.cell.2⟩
theorem nat_big1 {p : Nat → Prop} {H : AH} {v : Value} {n : Int} (h0 : 0 ≤ n) (h : BigV p H v n) : ∃ d, v = .agg #[.bool false, d] ∧ one d = true ∧ cellsOf d = some [d] := by
  obtain ⟨d, h1, h2⟩ := h
  rw [decide_eq_false (show ¬ (n : Int) < 0 by omega)] at h1
  exact ⟨d, h1, h2.cell.1, h2.cell.2⟩
theorem szF_le {k : Int} {n i : Nat} (hn : n ≤ 64) (hi : i < n) : szF k n i ≤ 64 := by
  unfold szF; split
  · show 2 ≤ 64; omega
  · show n - i ≤ 64; omega
theorem pw65 {i j c : Nat} (h : c ≤ 65) (hij : i ≤ j) : c ^ i ≤ 65 ^ j := Nat.le_trans (Nat.pow_le_pow_left h i) (Nat.pow_le_pow_right (by omega) hij)
theorem refsize_l0 {q6 q7 q8 : Nat} (hq : q6 ≠ q7 ∧ q6 ≠ q8 ∧ q7 ≠ q8) {k : Int} {n : Nat} (hn : n ≤ 64) {env : Env} {H1 : AH} (h : RsI q6 q7 q8 k n 0 env H1) : wpC Tryd.prog 54 (.loop ir_ref15_Size_l0) (fun e env' H' => e = .exit 0 ∧ RsI q6 q7 q8 k n n env' H') env H1 := by
  refine loop_upto n (RsI q6 q7 q8 k n) (Q := fun e env' H' => e = .exit 0 ∧ RsI q6 q7 q8 k n n env' H') h ?_
  rintro j env H' hk ⟨e0, e1, e6, e7, e8, e9, w', d6, d7, d8, b6, b7, b8, v6, v7, v8⟩
  by_cases hkn : j < n
  · have c6 := AH.cells_of b6
    have c7 := AH.cells_of b7
    have c8 := AH.cells_of b8
    have l6 := cells_lt w' c6
    have l7 := cells_lt w' c7
    have l8 := cells_lt w' c8
    have hfl := fun i (hi : i < n) => szF_le (k := k) hn hi
    have pl1 : prd (szF k n) j ≤ 65 ^ 64 := Nat.le_trans (prd_up (c := 64) fun i hi => hfl i (by omega)) (pw65 (by omega) (by omega))
    have pl2 : prd (szF k n) (j + 1) ≤ 65 ^ 64 := Nat.le_trans (prd_up (c := 64) fun i hi => hfl i (by omega)) (pw65 (by omega) (by omega))
    have sl1 : smF (szF k n) j ≤ 65 ^ 64 := Nat.le_trans (smF_up (c := 64) fun i hi => hfl i (by omega)) (pw65 (by omega) (by omega))
    have hpr : prd (szF k n) (j + 1) = prd (szF k n) j * szF k n j := rfl
    have hsm : smF (szF k n) (j + 1) = smF (szF k n) j + prd (szF k n) (j + 1) := rfl
    have fin : ∀ (H2 : AH) (d7' : Value), WF H2 → Keep [] H' H2 → H'.next ≤ H2.next → BigV (Off q6 q7 q8) (H2.set (q7) (.row [.bool false, d7'] T_secateurref01_Big true)) (.agg #[.bool false, d7']) (prd (szF k n) (j + 1) : Nat) →
        AFn Tryd.prog F_ref01_Add [.agg #[.bool false, d6], .agg #[.bool false, d7']] (H2.set (q7) (.row [.bool false, d7'] T_secateurref01_Big true)) fun u H3 => ∃ d, u = .agg #[.bool false, d] ∧ one d = true ∧ cellsOf d = some [d] ∧ H3.blk q6 = some (.row [.bool false, d6] T_secateurref01_Big true) ∧
          ∀ env2 : Env, env2 0 = some (.int .i64 k) → env2 1 = some (.int .i64 n) → env2 6 = some (.pointer (some ⟨q6, 0, none⟩)) → env2 7 = some (.pointer (some ⟨q7, 0, none⟩)) → env2 8 = some (.pointer (some ⟨q8, 0, none⟩)) → env2 9 = some (.int .i64 ((j : Int) + 1)) → RsI q6 q7 q8 k n (j + 1) env2 (H3.set q6 (.row [.bool false, d] T_secateurref01_Big true)) := by
      intro H2 d7' w2 k2 hn2 hv7
      obtain ⟨H3, hH3⟩ : ∃ H3, H3 = H2.set (q7) (.row [.bool false, d7'] T_secateurref01_Big true) := ⟨_, rfl⟩
      have w3 : WF H3 := by rw [hH3]; exact w2.set (by omega)
      have n3 : H3.next = H2.next := by rw [hH3]; rfl
      have n2' := k2.next
      have b73 : H3.blk (q7) = some (.row [.bool false, d7'] T_secateurref01_Big true) := by rw [hH3]; exact AH.set_blk_same
      have b63 : H3.blk q6 = some (.row [.bool false, d6] T_secateurref01_Big true) := by rw [hH3, AH.set_blk_ne (by omega), k2.blk _ l6 (by simp), b6]
      have b83 : H3.blk (q8) = some (.row [.bool false, d8] T_secateurref01_Big true) := by rw [hH3, AH.set_blk_ne (by omega), k2.blk _ l8 (by simp), b8]
      have v63 : BigV (Off q6 q7 q8) H3 (.agg #[.bool false, d6]) (smF (szF k n) j) := by rw [hH3]; exact (v6.kept w' k2).up (fun _ h => h) (.set (by simp [Off]))
      have v83 : BigV (Off q6 q7 q8) H3 (.agg #[.bool false, d8]) 2 := by rw [hH3]; exact (v8.kept w' k2).up (fun _ h => h) (.set (by simp [Off]))
      rw [← hH3] at hv7 ⊢
      clear hH3
      refine (Add_spec v63 hv7 (bdig_65 sl1) (bdig_65 pl2)).mono' fun u H4 w4 ⟨hu, k4⟩ => ?_
      rw [← hsm] at hu
      obtain ⟨d, rfl, hd1, hd2⟩ := nat_big hu
      have n4 := k4.next
      refine ⟨d, rfl, hd1, hd2, by rw [k4.blk _ (by omega) (by simp), b63], fun env2 f0 f1 f6 f7 f8 f9 => ⟨f0, f1, f6, f7, f8, by rw [f9]; simp, w4.set (by omega), d, d7', d8, AH.set_blk_same, ?_, ?_, hu.up (fun z hz => ⟨by omega, by omega, by omega⟩) (.set (by omega)), (hv7.kept w3 k4).up (fun _ h => h) (.set (by simp [Off])), (v83.kept w3 k4).up (fun _ h => h) (.set (by simp [Off]))⟩⟩
      · rw [AH.set_blk_ne (by omega), k4.blk _ (by omega) (by simp), b73]
      · rw [AH.set_blk_ne (by omega), k4.blk _ (by omega) (by simp), b83]
    by_cases h03 : k = 0 ∨ k = 3
    · have hf : szF k n j = 2 := by unfold szF; rw [if_pos h03]
      rw [hf] at hpr
      have hM := Mul_spec v7 v8 (by rw [Int.natAbs_natCast]; exact bdig_65 pl1) (by simp [bdig, digF])
      have hmul : ((prd (szF k n) j : Nat) : Int) * 2 = ((prd (szF k n) (j + 1) : Nat) : Int) := by rw [hpr]; simp
      rw [hmul] at hM
      clear hmul hpr
      have hpost : ∀ H2 u, WF H2 → BigV (fun z => H'.next ≤ z ∧ z < H2.next) H2 u ((prd (szF k n) (j + 1) : Nat) : Int) ∧ Keep [] H' H2 → ∃ d7', u = .agg #[.bool false, d7'] ∧ one d7' = true ∧ cellsOf d7' = some [d7'] ∧ H2.blk (q7) = some (.row [.bool false, d7] T_secateurref01_Big true) ∧ H2.cells q6 = some [.bool false, d6] ∧ BigV (Off q6 q7 q8) (H2.set (q7) (.row [.bool false, d7'] T_secateurref01_Big true)) u ((prd (szF k n) (j + 1) : Nat) : Int) := by
        rintro H2 u w2 ⟨hu, k2⟩
        obtain ⟨d, rfl, hd1, hd2⟩ := nat_big hu
        exact ⟨d, rfl, hd1, hd2, by rw [k2.blk _ l7 (by simp), b7], cells_kept w' k2 c6, hu.up (fun z hz => ⟨by omega, by omega, by omega⟩) (.set (by omega))⟩
      by_cases k0 : k = 0
      · have k0T := eq_true k0
        simp (disch := omega) [-getElem?_pos, if_pos, if_neg, decide_eq_true, decide_eq_false, ir_ref15_Size_l0, e0, e1, e6, e7, e8, e9, hkn, k0T, c7, c8, cut2, bigT]
        refine hM.mono' fun u H2 w2 hu => ?_
        obtain ⟨d7', rfl, g1, g2, g3, g4, g5⟩ := hpost H2 u w2 hu
        have k2 := hu.2
        have hfn := fin H2 d7' w2 k2 k2.next g5
        clear fin hpost
        simp (disch := omega) [-getElem?_pos, if_pos, if_neg, decide_eq_true, decide_eq_false, e6, e7, g1, g2, g3, g4, writeA, over, cut2, bigT]
        refine hfn.mono' fun u H3 w3 ⟨d, hu3, f1, f2, f3, f4⟩ => ?_
        subst hu3
        simp (disch := omega) [-getElem?_pos, if_pos, if_neg, decide_eq_true, decide_eq_false, e0, e1, e6, e7, e8, e9, f1, f2, f3, writeA, over, cut2, IntWalk.i64_in]
        refine ⟨hkn, f4 _ ?_ ?_ ?_ ?_ ?_ ?_⟩ <;> simp [e0, e1, e6, e7, e8, e9]
      · have k0F := eq_false k0
        have k3T := eq_true (show k = 3 by omega)
        simp (disch := omega) [-getElem?_pos, if_pos, if_neg, decide_eq_true, decide_eq_false, ir_ref15_Size_l0, e0, e1, e6, e7, e8, e9, hkn, k0F, k3T, c7, c8, cut2, bigT]
        refine hM.mono' fun u H2 w2 hu => ?_
        obtain ⟨d7', rfl, g1, g2, g3, g4, g5⟩ := hpost H2 u w2 hu
        have k2 := hu.2
        have hfn := fin H2 d7' w2 k2 k2.next g5
        clear fin hpost
        simp (disch := omega) [-getElem?_pos, if_pos, if_neg, decide_eq_true, decide_eq_false, e6, e7, g1, g2, g3, g4, writeA, over, cut2, bigT]
        refine hfn.mono' fun u H3 w3 ⟨d, hu3, f1, f2, f3, f4⟩ => ?_
        subst hu3
        simp (disch := omega) [-getElem?_pos, if_pos, if_neg, decide_eq_true, decide_eq_false, e0, e1, e6, e7, e8, e9, f1, f2, f3, writeA, over, cut2, IntWalk.i64_in]
        refine ⟨hkn, f4 _ ?_ ?_ ?_ ?_ ?_ ?_⟩ <;> simp [e0, e1, e6, e7, e8, e9]
    · have hf : szF k n j = n - j := by unfold szF; rw [if_neg h03]
      rw [hf] at hpr
      have k0F := eq_false (show k ≠ 0 by omega)
      have k3F := eq_false (show k ≠ 3 by omega)
      have hnj : (n : Int) - (j : Int) = ((n - j : Nat) : Int) := by omega
      have hnw : IntKind.i64.wrap ((n - j : Nat) : Int) = ((n - j : Nat) : Int) := IntWalk.i64_in _ (by omega)
      have hO := Of_spec (H := H') (n := ((n - j : Nat) : Int)) (by unfold I64; omega)
      simp (disch := omega) [-getElem?_pos, if_pos, if_neg, decide_eq_true, decide_eq_false, ir_ref15_Size_l0, e0, e1, e6, e7, e8, e9, hkn, k0F, k3F, hnj, hnw]
      refine hO.mono' fun u H2 w2 ⟨hu, k2⟩ => ?_
      obtain ⟨dx, rfl, x1, x2⟩ := nat_big hu
      have n2 := k2.next
      have c72 := cells_kept w' k2 c7
      have c62 := cells_kept w' k2 c6
      have hne : ¬ q7 = H2.next := by omega
      have hne6 : ¬ q6 = H2.next := by omega
      have hM := Mul_spec ((v7.kept w' k2).kept w2 (.alloc (B := .row [.bool false, dx] T_secateurref01_Big true))) (hu.kept w2 (.alloc (B := .row [.bool false, dx] T_secateurref01_Big true))) (by rw [Int.natAbs_natCast]; exact bdig_65 pl1) (by rw [Int.natAbs_natCast]; exact bdig_65 (Nat.le_trans (show n - j ≤ 65 ^ 1 by omega) (pw65 (by omega) (by omega))))
      have hmul : ((prd (szF k n) j : Nat) : Int) * ((n - j : Nat) : Int) = ((prd (szF k n) (j + 1) : Nat) : Int) := by rw [hpr, Int.natCast_mul]
      rw [hmul] at hM
      clear hmul hpr
      simp (disch := omega) [-getElem?_pos, if_pos, if_neg, decide_eq_true, decide_eq_false, e6, e7, x1, x2, c72, hne, writeA, over, cut2, bigT]
      refine hM.mono' fun u H3 w3 ⟨hu3, k3⟩ => ?_
      obtain ⟨d7', rfl, g1, g2⟩ := nat_big hu3
      have k23 : Keep [] H2 H3 := Keep.alloc.trans' k3
      have n3 := k23.next
      have hfn := fin H3 d7' w3 (k2.trans' k23) (by omega) (hu3.up (fun z hz => by have := hz.1; simp at this; exact ⟨by omega, by omega, by omega⟩) (.set (by simp; omega)))
      have g3 : H3.blk (q7) = some (.row [.bool false, d7] T_secateurref01_Big true) := by rw [k23.blk _ (by omega) (by simp), k2.blk _ l7 (by simp), b7]
      have g4 := cells_kept w2 k23 c62
      clear fin
      simp (disch := omega) [-getElem?_pos, if_pos, if_neg, decide_eq_true, decide_eq_false, e6, e7, g1, g2, g3, g4, writeA, over, cut2, bigT]
      refine hfn.mono' fun u H4 w4 ⟨d, hu4, f1, f2, f3, f4⟩ => ?_
      subst hu4
      simp (disch := omega) [-getElem?_pos, if_pos, if_neg, decide_eq_true, decide_eq_false, e0, e1, e6, e7, e8, e9, f1, f2, f3, writeA, over, cut2, IntWalk.i64_in]
      refine ⟨hkn, f4 _ ?_ ?_ ?_ ?_ ?_ ?_⟩ <;> simp [e0, e1, e6, e7, e8, e9]
  · obtain rfl : j = n := by omega
    simp (disch := omega) [-getElem?_pos, if_pos, if_neg, decide_eq_true, decide_eq_false, ir_ref15_Size_l0, e1, e9]
    exact ⟨e0, e1, e6, e7, e8, e9, w', d6, d7, d8, b6, b7, b8, v6, v7, v8⟩
end Go.Proofs.YtlcddhgfkkjhkaaDoor
