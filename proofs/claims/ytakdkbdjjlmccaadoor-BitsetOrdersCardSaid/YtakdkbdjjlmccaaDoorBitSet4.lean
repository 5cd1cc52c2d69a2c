/-
  Contracts of package bitset (4): Xor, Rank, Compare; the document's Cmp.
-/
import Derived.Test.YtakdkbdjjlmccaaDoorRefB
set_option maxRecDepth 100000
set_option linter.unusedSimpArgs false
set_option linter.unusedVariables false
namespace Go.Proofs.YtakdkbdjjlmccaaDoor
open Go Go.Abs

theorem Xor1_spec {H : AH} {a b : Nat} (ha : a < 18446744073709551616) (hb : b < 18446744073709551616) : AFn Tryd.prog F_bitset_Set_Xor_1 [uv a, uv b] H fun u H' => u = uv (a ^^^ b) ∧ H' = H := by
  refine AFn.enter mixed ir_bitset_Set_Xor_1_eq (by simp [ir_bitset_Set_Xor_1]) fun hw => ?_
  have h := uv_xor ha hb
  simp (disch := omega) [-getElem?_pos, if_pos, if_neg, decide_eq_true, decide_eq_false, ir_bitset_Set_Xor_1, ↓h]

section
variable {p : Nat → Prop} {H : AH} {v w : Value} {A B : List Bool}

theorem Xor_spec (hA : SetB p H v A) (hB : SetB p H w B) : AFn Tryd.prog F_bitset_Set_Xor [v, w] H fun u H' => SetB (fun b => H.next ≤ b) H' u (eachB (fun a b => a ^^ b) A B) ∧ Keep [] H H' := by
  have kA := hA
  have kB := hB
  obtain ⟨sa, rfl, _, _⟩ := kA
  obtain ⟨sb, rfl, _, _⟩ := kB
  refine AFn.enter mixed ir_bitset_Set_Xor_eq (by simp [ir_bitset_Set_Xor]) fun hw => ?_
  simp (disch := omega) [-getElem?_pos, if_pos, if_neg, decide_eq_true, decide_eq_false, ir_bitset_Set_Xor, cut]
  generalize hH1 : ((H.alloc (.row [.int .i64 A.length, sa] T_bitset_Set true)).alloc (.row [.int .i64 B.length, sb] T_bitset_Set true)).alloc (.row [.int .i64 0, .slice none 0 0] T_bitset_Set true) = H1
  have hk1 : Keep [] H H1 := by rw [← hH1]; exact .new_alloc (.new_alloc .alloc)
  have hw1 : WF H1 := by rw [← hH1]; exact hw.alloc.alloc.alloc
  have hn1 : H1.next = H.next + 3 := by rw [← hH1]; simp
  have hb2 : H1.blk (H.next + 2) = some (.row [.int .i64 0, .slice none 0 0] T_bitset_Set true) := by rw [← hH1]; simp; try omega
  refine (each_spec (hA.kept hw hk1) (hB.kept hw hk1) good_bitset_Set_Xor_1 xor_bitwise fun _ _ _ h k => Xor1_spec h k).mono' fun u H2 w2 ⟨h2, k2⟩ => ?_
  have hc2 : H2.blk (H.next + 2) = some (.row [.int .i64 0, .slice none 0 0] T_bitset_Set true) := by rw [k2.blk _ (by omega) (by simp), hb2]
  have h3 := h2
  obtain ⟨so, rfl, o1, o2⟩ := h2
  simp (disch := omega) [-getElem?_pos, if_pos, if_neg, decide_eq_true, decide_eq_false, writeA, hc2, cut]
  exact ⟨(h3.over fun b hb => AH.cells_set_ne (by omega)).mono fun b hb => by omega, .new_set (by omega) (hk1.trans' k2)⟩
end

/-- Which comes first, by the numbers below n, the greatest one first. -/
def cmpU (A B : List Bool) : Nat → Int
  | 0 => 0
  | n + 1 => if A.getD n false && !B.getD n false then 1 else if B.getD n false && !A.getD n false then -1 else cmpU A B n
def cmpB (A B : List Bool) : Int := cmpU A B (if B.length > A.length then B.length else A.length)

theorem cmpU_high (A B : List Bool) (n m : Nat) (hn : n ≤ m) (hA : A.length ≤ n) (hB : B.length ≤ n) : cmpU A B m = cmpU A B n := by
  induction m with
  | zero => obtain rfl : n = 0 := by omega
            rfl
  | succ m ih =>
    by_cases h : n = m + 1
    · rw [h]
    · have e1 : A.getD m false = false := by rw [List.getD_eq_getElem?_getD, List.getElem?_eq_none (by omega)]; rfl
      have e2 : B.getD m false = false := by rw [List.getD_eq_getElem?_getD, List.getElem?_eq_none (by omega)]; rfl
      rw [cmpU, e1, e2]
      simpa using ih (by omega)

theorem lt_of_bit {x y : Nat} (j : Nat) (hx : x.testBit j = false) (hy : y.testBit j = true) (h : ∀ i, j < i → x.testBit i = y.testBit i) : x < y := by
  have e : x / 2 ^ (j + 1) = y / 2 ^ (j + 1) := Nat.eq_of_testBit_eq fun i => by
    rw [Nat.testBit_div_two_pow, Nat.testBit_div_two_pow]
    exact h _ (by omega)
  have ex : x / 2 ^ j / 2 = x / 2 ^ (j + 1) := by rw [Nat.div_div_eq_div_mul, Nat.pow_succ]
  have ey : y / 2 ^ j / 2 = y / 2 ^ (j + 1) := by rw [Nat.div_div_eq_div_mul, Nat.pow_succ]
  rw [Nat.testBit_eq_decide_div_mod_eq] at hx hy
  simp at hx hy
  refine Nat.lt_of_div_lt_div (c := 2 ^ j) ?_
  omega

def cmpN (a b : Nat) : Int := if a < b then -1 else if a > b then 1 else 0

theorem cmpU_word (A B : List Bool) (k : Nat) : cmpU A B (64 * (k + 1)) = if cmpN (wb A k) (wb B k) = 0 then cmpU A B (64 * k) else cmpN (wb A k) (wb B k) := by
  have same : ∀ r, r ≤ 64 → (∀ j, r ≤ j → j < 64 → A.getD (64 * k + j) false = B.getD (64 * k + j) false) → cmpU A B (64 * (k + 1)) = cmpU A B (64 * k + r) := by
    intro r hr h
    obtain ⟨d, hd⟩ : ∃ d, 64 = r + d := ⟨64 - r, by omega⟩
    induction d generalizing r with
    | zero => rw [show 64 * (k + 1) = 64 * k + r by omega]
    | succ d ih =>
      rw [ih (r + 1) (by omega) (fun j h1 h2 => h j (by omega) h2) (by omega), show 64 * k + (r + 1) = (64 * k + r) + 1 by omega, cmpU, h r (Nat.le_refl _) (by omega)]
      cases B.getD (64 * k + r) false <;> simp
  have top : ∀ d, d ≤ 64 → (∀ j, 64 - d ≤ j → j < 64 → A.getD (64 * k + j) false = B.getD (64 * k + j) false) ∨ ∃ j, j < 64 ∧ A.getD (64 * k + j) false ≠ B.getD (64 * k + j) false ∧ ∀ i, j < i → i < 64 → A.getD (64 * k + i) false = B.getD (64 * k + i) false := by
    intro d
    induction d with
    | zero => intro _; exact .inl fun j h1 h2 => by omega
    | succ d ih =>
      intro hd
      rcases ih (by omega) with h | h
      · by_cases hx : A.getD (64 * k + (64 - (d + 1))) false = B.getD (64 * k + (64 - (d + 1))) false
        · refine .inl fun j h1 h2 => ?_
          by_cases hj : j = 64 - (d + 1)
          · rw [hj]; exact hx
          · exact h j (by omega) h2
        · exact .inr ⟨64 - (d + 1), by omega, hx, fun i h1 h2 => h i (by omega) h2⟩
      · exact .inr h
  have hbit : ∀ (C : List Bool) (j : Nat), (wb C k).testBit j = if j < 64 then C.getD (64 * k + j) false else false := by
    intro C j
    split
    · rename_i h; exact wb_bit C k j h
    · rename_i h; exact wb_high C k j (by omega)
  rcases top 64 (Nat.le_refl _) with h | ⟨j, hj, hne, hhi⟩
  · have he : wb A k = wb B k := Nat.eq_of_testBit_eq fun j => by
      rw [hbit, hbit]
      split
      · rename_i hj; exact h j (by omega) hj
      · rfl
    rw [he, same 0 (by omega) (fun j _ hj => h j (by omega) hj)]
    simp [cmpN]
  · have hU := same (j + 1) (by omega) fun i h1 h2 => hhi i (by omega) h2
    rw [show 64 * k + (j + 1) = (64 * k + j) + 1 by omega, cmpU] at hU
    have hhi' : ∀ i, j < i → (wb A k).testBit i = (wb B k).testBit i := fun i hi => by
      rw [hbit, hbit]
      split
      · rename_i h; exact hhi i hi h
      · rfl
    cases hA : A.getD (64 * k + j) false with
    | true =>
      have hB : B.getD (64 * k + j) false = false := by
        cases hB : B.getD (64 * k + j) false with
        | false => rfl
        | true => rw [hA, hB] at hne; exact absurd rfl hne
      have hlt : wb B k < wb A k := lt_of_bit j (by rw [hbit, if_pos hj, hB]) (by rw [hbit, if_pos hj, hA]) fun i hi => (hhi' i hi).symm
      rw [hU, hA, hB]
      have h1 : ¬ wb A k < wb B k := by omega
      simp [cmpN, h1, hlt]
    | false =>
      have hB : B.getD (64 * k + j) false = true := by
        cases hB : B.getD (64 * k + j) false with
        | true => rfl
        | false => rw [hA, hB] at hne; exact absurd rfl hne
      have hlt : wb A k < wb B k := lt_of_bit j (by rw [hbit, if_pos hj, hA]) (by rw [hbit, if_pos hj, hB]) fun i hi => hhi' i hi
      rw [hU, hA, hB]
      simp [cmpN, hlt]

theorem isNaNU_spec {H : AH} (a : Nat) : AFn Tryd.prog F_cmp_isNaN_uint64 [uv a] H fun u H' => u = .bool false ∧ H' = H := by
  refine AFn.enter mixed ir_cmp_isNaN_uint64_eq (by simp [ir_cmp_isNaN_uint64]) fun hw => ?_
  have h : abin .neq (uv a) (uv a) = some (.bool false) := by rw [uv_neq]; simp
  simp (disch := omega) [-getElem?_pos, if_pos, if_neg, decide_eq_true, decide_eq_false, ir_cmp_isNaN_uint64, ↓h]
theorem CompareU_spec {H : AH} (a b : Nat) : AFn Tryd.prog F_cmp_Compare_uint64 [uv a, uv b] H fun u H' => u = .int .i64 (cmpN a b) ∧ H' = H := by
  refine AFn.enter mixed ir_cmp_Compare_uint64_eq (by simp [ir_cmp_Compare_uint64]) fun hw => ?_
  simp (disch := omega) [-getElem?_pos, if_pos, if_neg, decide_eq_true, decide_eq_false, ir_cmp_Compare_uint64]
  refine AFn.pure (isNaNU_spec a) ?_
  simp (disch := omega) [-getElem?_pos, if_pos, if_neg, decide_eq_true, decide_eq_false, ]
  refine AFn.pure (isNaNU_spec b) ?_
  have l1 := uv_lss (a := a) (b := b)
  have l2 := uv_gtr (a := a) (b := b)
  unfold cmpN
  by_cases h1 : a < b
  · simp (disch := omega) [-getElem?_pos, if_pos, if_neg, decide_eq_true, decide_eq_false, ↓l1, h1]
  · by_cases h2 : a > b
    · simp (disch := omega) [-getElem?_pos, if_pos, if_neg, decide_eq_true, decide_eq_false, ↓l1, ↓l2, h1, h2]
    · simp (disch := omega) [-getElem?_pos, if_pos, if_neg, decide_eq_true, decide_eq_false, ↓l1, ↓l2, h1, h2]

def CmpI (q2 q3 : Nat) (A B : List Bool) (H1 : AH) (N : Nat) (j : Nat) (env : Env) (H' : AH) : Prop :=
  H' = H1 ∧ env 2 = some (.pointer (some ⟨q2, 0, none⟩)) ∧ env 3 = some (.pointer (some ⟨q3, 0, none⟩)) ∧ env 5 = some (.int .i64 ((j : Int) - 1)) ∧ j ≤ N ∧ cmpU A B (64 * N) = cmpU A B (64 * j)

theorem Compare_spec {p : Nat → Prop} {H : AH} {v w : Value} {A B : List Bool} (hA : SetB p H v A) (hB : SetB p H w B) : AFn Tryd.prog F_bitset_Compare [v, w] H fun u H' => u = .int .i64 (cmpB A B) ∧ H' = H := by
  refine AFn.calm (fun H0 hs => ?_) rfl
  have hA := hA.same hs
  have hB := hB.same hs
  obtain ⟨sa, rfl, a2, a3⟩ := id hA
  obtain ⟨sb, rfl, b2, b3⟩ := id hB
  obtain ⟨aa, ca, rfl⟩ := a2.slice
  obtain ⟨ab, cb, rfl⟩ := b2.slice
  refine AFn.enter mixed ir_bitset_Compare_eq (by simp [ir_bitset_Compare]) fun hw => ?_
  obtain ⟨N, hN⟩ : ∃ N : Nat, N = max (nw A.length) (nw B.length) := ⟨_, rfl⟩
  have hmx : (if (nw B.length : Int) > (nw A.length : Int) then (nw B.length : Int) else (nw A.length : Int)) = (N : Int) := by split <;> omega
  have hmx' : (if nw A.length < nw B.length then (nw B.length : Int) else (nw A.length : Int)) = (N : Int) := by split <;> omega
  have hfin : cmpU A B (64 * N) = cmpB A B := by
    unfold cmpB
    unfold nw at hN
    exact cmpU_high A B _ _ (by split <;> omega) (by split <;> omega) (by split <;> omega)
  have hNN : N ≤ 65 := by unfold nw at hN; omega
  simp (disch := omega) [-getElem?_pos, if_pos, if_neg, decide_eq_true, decide_eq_false, ir_bitset_Compare]
  have hk1 : Keep [] H0 ((H0.alloc (.row [.int .i64 A.length, .slice aa (nw A.length) ca] T_bitset_Set true)).alloc (.row [.int .i64 B.length, .slice ab (nw B.length) cb] T_bitset_Set true)) := .new_alloc .alloc
  generalize hH1 : (H0.alloc (.row [.int .i64 A.length, .slice aa (nw A.length) ca] T_bitset_Set true)).alloc (.row [.int .i64 B.length, .slice ab (nw B.length) cb] T_bitset_Set true) = H1 at hk1
  have c2 : H1.cells H0.next = some [.int .i64 A.length, .slice aa (nw A.length) ca] := by rw [← hH1]; simp; try omega
  have c3 : H1.cells (H0.next + 1) = some [.int .i64 B.length, .slice ab (nw B.length) cb] := by rw [← hH1]; simp
  have hA1 := hA.kept hw hk1
  have hB1 := hB.kept hw hk1
  refine wpC_use (loop_rule (CmpI H0.next (H0.next + 1) A B H1 N) (Q := fun e env H' => (e = .exit 0 ∧ cmpB A B = 0) ∨ (e = .ret ∧ env 4 = some (.int .i64 (cmpB A B)))) ?_ (j := N) ⟨rfl, by simp, by simp, by simp only [upd_apply]; simp; rw [hmx', IntWalk.i64_in _ (by omega)], Nat.le_refl _, rfl⟩) fun e env2 H4 he _ => ?_
  · rintro j env H' ⟨rfl, e2, e3, e5, hj, hU⟩
    cases j with
    | zero =>
      simp (disch := omega) [-getElem?_pos, if_pos, if_neg, decide_eq_true, decide_eq_false, ir_bitset_Compare_l0, e5]
      rw [← hfin, hU]; rfl
    | succ j =>
      rw [cmpU_word] at hU
      have hjj : ((j + 1 : Nat) : Int) - 1 = (j : Nat) := by omega
      rw [hjj] at e5
      simp (disch := omega) [-getElem?_pos, if_pos, if_neg, decide_eq_true, decide_eq_false, ir_bitset_Compare_l0, e2, e3, e5, c2, c3, cut]
      refine AFnD.of (word_spec hA1 j) ?_
      simp (disch := omega) [-getElem?_pos, if_pos, if_neg, decide_eq_true, decide_eq_false, ]
      refine AFnD.of (word_spec hB1 j) ?_
      simp (disch := omega) [-getElem?_pos, if_pos, if_neg, decide_eq_true, decide_eq_false, ]
      refine AFnD.of (CompareU_spec _ _) ?_
      by_cases h0 : cmpN (wb A j) (wb B j) = 0
      · rw [if_pos h0] at hU
        rw [h0]
        simp (disch := omega) [-getElem?_pos, if_pos, if_neg, decide_eq_true, decide_eq_false, e5, IntWalk.i64_in]
        exact ⟨j, by omega, rfl, by simp [e2], by simp [e3], by simp, by omega, hU⟩
      · rw [if_neg h0] at hU
        simp (disch := omega) [-getElem?_pos, if_pos, if_neg, decide_eq_true, decide_eq_false, h0]
        rw [← hfin, hU]
  · rcases he with ⟨rfl, h0⟩ | ⟨rfl, h4⟩
    · simp (disch := omega) [-getElem?_pos, if_pos, if_neg, decide_eq_true, decide_eq_false, h0]
    · simp (disch := omega) [-getElem?_pos, if_pos, if_neg, decide_eq_true, decide_eq_false, h4]

def RefCmpI (v w : Value) (A B : List Bool) (H1 : AH) (N : Nat) (j : Nat) (env : Env) (H' : AH) : Prop :=
  H' = H1 ∧ env 0 = some v ∧ env 1 = some w ∧ env 6 = some (.int .i64 ((j : Int) - 1)) ∧ j ≤ N ∧ cmpU A B N = cmpU A B j

theorem RefCmp_spec {p q : Nat → Prop} {H : AH} {v w : Value} {A B : List Bool} (hA : BoolsV p H v A) (hB : BoolsV q H w B) : AFn Tryd.prog F_ref03_Cmp [v, w] H fun u H' => u = .int .i64 (cmpB A B) ∧ H' = H := by
  refine AFn.enter mixed ir_ref03_Cmp_eq (by simp [ir_ref03_Cmp]) fun hw => ?_
  obtain ⟨aa, ca, rfl⟩ := hA.1.slice
  obtain ⟨ab, cb, rfl⟩ := hB.1.slice
  have hla := hA.2
  have hlb := hB.2
  obtain ⟨N, hN⟩ : ∃ N : Nat, N = if B.length > A.length then B.length else A.length := ⟨_, rfl⟩
  have hfin : cmpU A B N = cmpB A B := by rw [hN]; rfl
  have main : ∀ env, env 0 = some (.slice aa A.length ca) → env 1 = some (.slice ab B.length cb) → env 6 = some (.int .i64 ((N : Int) - 1)) →
      wpC Tryd.prog 39 (.loop ir_ref03_Cmp_l0) (fun e env H' => H' = H ∧ ((e = .exit 0 ∧ cmpB A B = 0) ∨ (e = .ret ∧ env 4 = some (.int .i64 (cmpB A B))))) env H := by
    intro env q0 q1 q6
    refine loop_rule (RefCmpI (.slice aa A.length ca) (.slice ab B.length cb) A B H N) ?_ (j := N) ⟨rfl, q0, q1, q6, Nat.le_refl _, rfl⟩
    rintro j env H' ⟨rfl, e0, e1, e6, hj, hU⟩
    cases j with
    | zero =>
      simp (disch := omega) [-getElem?_pos, if_pos, if_neg, decide_eq_true, decide_eq_false, ir_ref03_Cmp_l0, e6]
      rw [← hfin, hU]; rfl
    | succ j =>
      rw [cmpU] at hU
      have hjj : ((j + 1 : Nat) : Int) - 1 = (j : Nat) := by omega
      rw [hjj] at e6
      have ha : hasB A (j : Int) = A.getD j false := by simp [hasB]
      have hb : hasB B (j : Int) = B.getD j false := by simp [hasB]
      generalize A.getD j false = x at *
      generalize B.getD j false = y at *
      have hNb : N ≤ 1000000 := by rw [hN]; split <;> omega
      simp (disch := omega) [-getElem?_pos, if_pos, if_neg, decide_eq_true, decide_eq_false, ir_ref03_Cmp_l0, e0, e1, e6]
      refine AFn.pure (RefHas_spec hA j) ?_
      rw [ha]
      simp (disch := omega) [-getElem?_pos, if_pos, if_neg, decide_eq_true, decide_eq_false, e0, e1, e6]
      refine AFn.pure (RefHas_spec hB j) ?_
      rw [hb]
      cases x <;> cases y <;> simp at hU
      · simp (disch := omega) [-getElem?_pos, if_pos, if_neg, decide_eq_true, decide_eq_false, e0, e1, e6, IntWalk.i64_in]
        exact ⟨j, by omega, rfl, by simp [e0], by simp [e1], by simp, by omega, hU⟩
      · simp (disch := omega) [-getElem?_pos, if_pos, if_neg, decide_eq_true, decide_eq_false, ]
        rw [← hfin, hU]
      · simp (disch := omega) [-getElem?_pos, if_pos, if_neg, decide_eq_true, decide_eq_false, ]
        rw [← hfin, hU]
      · simp (disch := omega) [-getElem?_pos, if_pos, if_neg, decide_eq_true, decide_eq_false, e0, e1, e6, IntWalk.i64_in]
        exact ⟨j, by omega, rfl, by simp [e0], by simp [e1], by simp, by omega, hU⟩
  by_cases hgt : B.length > A.length
  · rw [if_pos hgt] at hN
    simp (disch := omega) [-getElem?_pos, if_pos, if_neg, decide_eq_true, decide_eq_false, ir_ref03_Cmp, IntWalk.i64_in]
    refine wpC_use (main _ (by simp) (by simp) (by simp [hN])) fun e env2 H2 ⟨rfl, he⟩ _ => ?_
    rcases he with ⟨rfl, h0⟩ | ⟨rfl, h4⟩
    · simp (disch := omega) [-getElem?_pos, if_pos, if_neg, decide_eq_true, decide_eq_false, h0]
    · simp (disch := omega) [-getElem?_pos, if_pos, if_neg, decide_eq_true, decide_eq_false, h4]
  · rw [if_neg hgt] at hN
    simp (disch := omega) [-getElem?_pos, if_pos, if_neg, decide_eq_true, decide_eq_false, ir_ref03_Cmp, IntWalk.i64_in]
    refine wpC_use (main _ (by simp) (by simp) (by simp [hN])) fun e env2 H2 ⟨rfl, he⟩ _ => ?_
    rcases he with ⟨rfl, h0⟩ | ⟨rfl, h4⟩
    · simp (disch := omega) [-getElem?_pos, if_pos, if_neg, decide_eq_true, decide_eq_false, h0]
    · simp (disch := omega) [-getElem?_pos, if_pos, if_neg, decide_eq_true, decide_eq_false, h4]
end Go.Proofs.YtakdkbdjjlmccaaDoor
