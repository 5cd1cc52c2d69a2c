/-
  PLAIN LAW: words of 64 bits: how many bits are set, which is the lowest, which is the highest, as the library's functions reckon it.
-/
set_option linter.unusedSimpArgs false
set_option linter.unusedVariables false
namespace Go.Abs
def dig (B : Nat) : List Nat → Nat
  | [] => 0
  | d :: ds => d + B * dig B ds
theorem and_split (k x y a b : Nat) (hx : x < 2 ^ k) (ha : a < 2 ^ k) : (x + 2 ^ k * y) &&& (a + 2 ^ k * b) = (x &&& a) + 2 ^ k * (y &&& b) := by
  have hxa : x &&& a < 2 ^ k := Nat.and_lt_two_pow x ha
  apply Nat.eq_of_testBit_eq
  intro i
  rw [Nat.testBit_and, Nat.add_comm x, Nat.add_comm a, Nat.add_comm (x &&& a), Nat.testBit_two_pow_mul_add _ hx, Nat.testBit_two_pow_mul_add _ ha, Nat.testBit_two_pow_mul_add _ hxa]
  split <;> simp [Nat.testBit_and]
theorem and_low (k x : Nat) : x &&& (2 ^ k - 1) = x % 2 ^ k := Nat.and_two_pow_sub_one_eq_mod x k
theorem halves (k : Nat) : ∀ (l : List (Nat × Nat)), (∀ p ∈ l, p.1 < 2 ^ k ∧ p.2 < 2 ^ k) →
    (dig (2 ^ (2 * k)) (l.map fun p => p.1 + 2 ^ k * p.2) / 2 ^ k &&& dig (2 ^ (2 * k)) (l.map fun _ => 2 ^ k - 1)) + (dig (2 ^ (2 * k)) (l.map fun p => p.1 + 2 ^ k * p.2) &&& dig (2 ^ (2 * k)) (l.map fun _ => 2 ^ k - 1)) = dig (2 ^ (2 * k)) (l.map fun p => p.1 + p.2)
  | [], _ => by simp [dig]
  | (a, b) :: l, h => by
    have ih := halves k l fun p hp => h p (by simp [hp])
    obtain ⟨ha, hb⟩ := h (a, b) (by simp)
    simp only [List.map_cons, dig] at *
    generalize dig (2 ^ (2 * k)) (l.map fun p => p.1 + 2 ^ k * p.2) = X at *
    generalize dig (2 ^ (2 * k)) (l.map fun _ => 2 ^ k - 1) = M at *
    generalize dig (2 ^ (2 * k)) (l.map fun p => p.1 + p.2) = R at *
    have hp : 0 < 2 ^ k := Nat.two_pow_pos k
    have hkk : 2 ^ (2 * k) = 2 ^ k * 2 ^ k := by rw [Nat.two_mul, Nat.pow_add]
    have hlt : a + 2 ^ k * b < 2 ^ (2 * k) := by
      rw [hkk]
      calc a + 2 ^ k * b < 2 ^ k + 2 ^ k * b := by omega
        _ = 2 ^ k * (b + 1) := by rw [Nat.mul_add, Nat.mul_one, Nat.add_comm]
        _ ≤ 2 ^ k * 2 ^ k := Nat.mul_le_mul_left _ (by omega)
    have hM : 2 ^ k - 1 < 2 ^ (2 * k) := by rw [hkk]; have : 2 ^ k ≤ 2 ^ k * 2 ^ k := Nat.le_mul_of_pos_left _ hp; omega
    have h2 : a + 2 ^ k * b + 2 ^ (2 * k) * X &&& 2 ^ k - 1 + 2 ^ (2 * k) * M = a + 2 ^ (2 * k) * (X &&& M) := by
      rw [and_split _ _ _ _ _ hlt hM, and_low, Nat.add_mul_mod_self_left, Nat.mod_eq_of_lt ha]
    have h3 : (a + 2 ^ k * b + 2 ^ (2 * k) * X) / 2 ^ k = (b + 2 ^ k * (X % 2 ^ k)) + 2 ^ (2 * k) * (X / 2 ^ k) := by
      have e1 : a + 2 ^ k * b + 2 ^ (2 * k) * X = a + 2 ^ k * (b + 2 ^ k * X) := by rw [hkk, Nat.mul_add, Nat.mul_assoc]; omega
      rw [e1, Nat.add_mul_div_left _ _ hp, Nat.div_eq_of_lt ha, hkk]
      have e2 := Nat.div_add_mod X (2 ^ k)
      have e3 : 2 ^ k * X = 2 ^ k * (2 ^ k * (X / 2 ^ k)) + 2 ^ k * (X % 2 ^ k) := by rw [← Nat.mul_add, e2]
      rw [Nat.mul_assoc]; omega
    have hlt2 : b + 2 ^ k * (X % 2 ^ k) < 2 ^ (2 * k) := by
      have hm : X % 2 ^ k < 2 ^ k := Nat.mod_lt _ hp
      rw [hkk]
      calc b + 2 ^ k * (X % 2 ^ k) < 2 ^ k + 2 ^ k * (X % 2 ^ k) := by omega
        _ = 2 ^ k * (X % 2 ^ k + 1) := by rw [Nat.mul_add, Nat.mul_one, Nat.add_comm]
        _ ≤ 2 ^ k * 2 ^ k := Nat.mul_le_mul_left _ (by omega)
    rw [h2, h3, and_split _ _ _ _ _ hlt2 hM, and_low, Nat.add_mul_mod_self_left, Nat.mod_eq_of_lt hb]
    have h4 : 2 ^ (2 * k) * (X / 2 ^ k &&& M) + 2 ^ (2 * k) * (X &&& M) = 2 ^ (2 * k) * R := by rw [← Nat.mul_add, ih]
    omega
theorem low (k : Nat) : ∀ (l : List (Nat × Nat)), (∀ p ∈ l, p.1 < 2 ^ k ∧ p.2 < 2 ^ k) →
    dig (2 ^ (2 * k)) (l.map fun p => p.1 + 2 ^ k * p.2) &&& dig (2 ^ (2 * k)) (l.map fun _ => 2 ^ k - 1) = dig (2 ^ (2 * k)) (l.map fun p => p.1)
  | [], _ => by simp [dig]
  | (a, b) :: l, h => by
    have ih := low k l fun p hp => h p (by simp [hp])
    obtain ⟨ha, hb⟩ := h (a, b) (by simp)
    simp only [List.map_cons, dig] at *
    have hp : 0 < 2 ^ k := Nat.two_pow_pos k
    have hkk : 2 ^ (2 * k) = 2 ^ k * 2 ^ k := by rw [Nat.two_mul, Nat.pow_add]
    have hlt : a + 2 ^ k * b < 2 ^ (2 * k) := by
      rw [hkk]
      calc a + 2 ^ k * b < 2 ^ k + 2 ^ k * b := by omega
        _ = 2 ^ k * (b + 1) := by rw [Nat.mul_add, Nat.mul_one, Nat.add_comm]
        _ ≤ 2 ^ k * 2 ^ k := Nat.mul_le_mul_left _ (by omega)
    have hM : 2 ^ k - 1 < 2 ^ (2 * k) := by rw [hkk]; have : 2 ^ k ≤ 2 ^ k * 2 ^ k := Nat.le_mul_of_pos_left _ hp; omega
    rw [and_split _ _ _ _ _ hlt hM, and_low, Nat.add_mul_mod_self_left, Nat.mod_eq_of_lt ha, ih]
def digs (B : Nat) : Nat → Nat → List Nat
  | 0, _ => []
  | n + 1, x => x % B :: digs B n (x / B)
theorem digs_length (B : Nat) : ∀ n x, (digs B n x).length = n
  | 0, _ => rfl
  | n + 1, x => by simp [digs, digs_length B n]
theorem digs_lt (B : Nat) (hB : 0 < B) : ∀ n x, ∀ d ∈ digs B n x, d < B
  | 0, _, d, h => by simp [digs] at h
  | n + 1, x, d, h => by
    simp only [digs, List.mem_cons] at h
    rcases h with rfl | h
    · exact Nat.mod_lt _ hB
    · exact digs_lt B hB n _ d h
theorem dig_digs (B : Nat) : ∀ n x, x < B ^ n → dig B (digs B n x) = x
  | 0, x, h => by simp at h; simp [digs, dig, h]
  | n + 1, x, h => by
    have : x / B < B ^ n := by
      rw [Nat.pow_succ, Nat.mul_comm] at h
      exact Nat.div_lt_of_lt_mul h
    simp only [digs, dig, dig_digs B n _ this]
    exact Nat.mod_add_div x B
def pairUp : List Nat → List (Nat × Nat)
  | a :: b :: l => (a, b) :: pairUp l
  | _ => []
theorem dig_pair (B : Nat) : ∀ (n : Nat) (l : List Nat), l.length = 2 * n → dig B l = dig (B * B) ((pairUp l).map fun p => p.1 + B * p.2) ∧ ((pairUp l).map fun p => p.1 + p.2).sum = l.sum ∧ (pairUp l).length = n ∧ ∀ c, (∀ d ∈ l, d < c) → ∀ p ∈ pairUp l, p.1 < c ∧ p.2 < c
  | 0, l, h => by
    have : l = [] := by simpa using h
    subst this
    simp [pairUp, dig]
  | n + 1, [], h => by simp at h
  | n + 1, [a], h => by simp at h; omega
  | n + 1, a :: b :: l, h => by
    obtain ⟨h1, h2, h3, h4⟩ := dig_pair B n l (by simp at h; omega)
    refine ⟨?_, ?_, by simp [pairUp, h3], ?_⟩
    · simp only [pairUp, List.map_cons, dig, h1, Nat.mul_add, Nat.mul_assoc, Nat.add_assoc]
    · simp only [pairUp, List.map_cons, List.sum_cons, h2, Nat.add_assoc]
    · intro c hc p hp
      simp only [pairUp, List.mem_cons] at hp
      rcases hp with rfl | hp
      · exact ⟨hc a (by simp), hc b (by simp)⟩
      · exact h4 c (fun d hd => hc d (by simp [hd])) p hp
def cntN (x : Nat) : Nat := (digs 2 64 x).sum
theorem mask (B c n m : Nat) (l : List (Nat × Nat)) (hl : l.length = n) (h : dig B (List.replicate n c) = m) : dig B (l.map fun _ => c) = m := by
  rw [← h, ← hl, List.map_const']
theorem sum_le (l : List Nat) (c : Nat) (h : ∀ d ∈ l, d ≤ c) : l.sum ≤ l.length * c := by
  induction l with
  | nil => simp
  | cons a l ih =>
    have h1 := h a (by simp)
    have h2 := ih fun d hd => h d (by simp [hd])
    simp only [List.sum_cons, List.length_cons, Nat.add_mul]
    omega
theorem step_of (B : Nat) (k n m : Nat) (hB : 2 ^ k = B) (l : List Nat) (hl : l.length = 2 * n) (hb : ∀ d ∈ l, d < 2 ^ k) (hm : dig (B * B) (List.replicate n (B - 1)) = m) :
    (dig B l / B &&& m) + (dig B l &&& m) = dig (B * B) ((pairUp l).map fun p => p.1 + p.2) := by
  subst hB
  obtain ⟨a1, a2, a3, a4⟩ := dig_pair (2 ^ k) n l hl
  have hkk : 2 ^ k * 2 ^ k = 2 ^ (2 * k) := by rw [Nat.two_mul, Nat.pow_add]
  have b0 := halves k (pairUp l) (fun p hp => a4 _ hb p hp)
  rw [mask _ _ n m (pairUp l) a3 (by rw [← hkk]; exact hm), ← hkk, ← a1] at b0
  exact b0
theorem ones3 (n0 n1 n2 n3 n4 n5 n6 n7 n8 n9 n10 n11 n12 n13 n14 n15 x2 : Nat) (hb2 : ∀ d ∈ [n0, n1, n2, n3, n4, n5, n6, n7, n8, n9, n10, n11, n12, n13, n14, n15], d ≤ 4) (hx2 : x2 = dig 16 [n0, n1, n2, n3, n4, n5, n6, n7, n8, n9, n10, n11, n12, n13, n14, n15]) :
    (x2 / 16 + x2) &&& 1085102592571150095 = dig 256 [n0 + n1, n2 + n3, n4 + n5, n6 + n7, n8 + n9, n10 + n11, n12 + n13, n14 + n15] ∧ x2 < 2 ^ 64 ∧ x2 / 16 + x2 < 2 ^ 64 := by
  simp only [List.mem_cons, List.not_mem_nil, or_false, forall_eq_or_imp, forall_eq] at hb2
  have e3 : x2 / 16 + x2 = dig 256 ([(n0 + n1, n1 + n2), (n2 + n3, n3 + n4), (n4 + n5, n5 + n6), (n6 + n7, n7 + n8), (n8 + n9, n9 + n10), (n10 + n11, n11 + n12), (n12 + n13, n13 + n14), (n14 + n15, n15)].map fun p => p.1 + 16 * p.2) := by
    simp only [dig] at hx2
    simp only [dig, List.map_cons, List.map_nil]
    omega
  have hlow := low 4 [(n0 + n1, n1 + n2), (n2 + n3, n3 + n4), (n4 + n5, n5 + n6), (n6 + n7, n7 + n8), (n8 + n9, n9 + n10), (n10 + n11, n11 + n12), (n12 + n13, n13 + n14), (n14 + n15, n15)]
    (by simp only [List.mem_cons, List.not_mem_nil, or_false, forall_eq_or_imp, forall_eq]; omega)
  rw [mask _ _ 8 1085102592571150095 _ rfl (by simp [dig, List.replicate])] at hlow
  have hlt : x2 < 2 ^ 64 ∧ x2 / 16 + x2 < 2 ^ 64 := by
    simp only [dig] at hx2
    constructor <;> omega
  refine ⟨?_, hlt⟩
  rw [e3]
  exact hlow
theorem dig_add (B : Nat) : ∀ (l m : List Nat), l.length = m.length → dig B l + dig B m = dig B (List.zipWith (· + ·) l m)
  | [], [], _ => rfl
  | [], _ :: _, h => by simp at h
  | _ :: _, [], h => by simp at h
  | a :: l, b :: m, h => by
    have := dig_add B l m (by simpa using h)
    simp only [dig, List.zipWith_cons_cons, ← this, Nat.mul_add]
    omega
theorem dig_lt (B : Nat) : ∀ (l : List Nat), (∀ d ∈ l, d < B) → dig B l < B ^ l.length
  | [], _ => by simp [dig]
  | a :: l, h => by
    have h1 := dig_lt B l fun d hd => h d (by simp [hd])
    have h2 := h a (by simp)
    simp only [dig, List.length_cons, Nat.pow_succ]
    calc a + B * dig B l < B + B * dig B l := by omega
      _ = B * (dig B l + 1) := by rw [Nat.mul_add, Nat.mul_one, Nat.add_comm]
      _ ≤ B * B ^ l.length := Nat.mul_le_mul_left _ h1
      _ = B ^ l.length * B := Nat.mul_comm _ _
theorem dig_append (B : Nat) : ∀ (l m : List Nat), dig B (l ++ m) = dig B l + B ^ l.length * dig B m
  | [], m => by simp [dig]
  | a :: l, m => by
    simp only [List.cons_append, dig, dig_append B l m, List.length_cons, Nat.pow_succ, Nat.mul_add]
    rw [Nat.add_assoc, Nat.mul_comm (B ^ l.length) B, Nat.mul_assoc]
theorem dig_div (B : Nat) (l m : List Nat) (n : Nat) (hl : ∀ d ∈ l, d < B) (k : Nat) (hk : l.length = k) (hn : B ^ k = n) : dig B (l ++ m) / n = dig B m := by
  subst hk
  subst hn
  have h := dig_lt B l hl
  rw [dig_append, Nat.add_mul_div_left _ _ (by omega), Nat.div_eq_of_lt h, Nat.zero_add]
theorem dig_zero (B : Nat) (l : List Nat) : dig B (l ++ [0]) = dig B l := by rw [dig_append]; simp [dig]
theorem dig_lt8 (l : List Nat) (h8 : l.length = 8) (h : ∀ d ∈ l, d < 256) : dig 256 l < 2 ^ 64 := by
  have := dig_lt 256 l h
  rw [h8] at this
  exact Nat.lt_of_lt_of_eq this (by decide)
theorem ones4 (s0 s1 s2 s3 s4 s5 s6 s7 x3 x4 x5 x6 : Nat) (hb : ∀ d ∈ [s0, s1, s2, s3, s4, s5, s6, s7], d ≤ 8) (hx3 : x3 = dig 256 [s0, s1, s2, s3, s4, s5, s6, s7]) (h4 : x4 = x3 + x3 / 256) (h5 : x5 = x4 + x4 / 65536) (h6 : x6 = x5 + x5 / 4294967296) :
    x6 % 128 = s0 + s1 + s2 + s3 + s4 + s5 + s6 + s7 ∧ x4 < 2 ^ 64 ∧ x5 < 2 ^ 64 ∧ x6 < 2 ^ 63 := by
  simp only [List.mem_cons, List.not_mem_nil, or_false, forall_eq_or_imp, forall_eq] at hb
  have e4 : x4 = dig 256 [s0 + s1, s1 + s2, s2 + s3, s3 + s4, s4 + s5, s5 + s6, s6 + s7, s7 + 0] := by
    have d : dig 256 [s0, s1, s2, s3, s4, s5, s6, s7] / 256 = dig 256 ([s1, s2, s3, s4, s5, s6, s7] ++ [0]) := by
      rw [dig_zero]; exact dig_div 256 [s0] [s1, s2, s3, s4, s5, s6, s7] 256 (by simp; omega) 1 rfl (by decide)
    rw [h4, hx3, d]
    exact dig_add 256 _ _ rfl
  have e5 : x5 = dig 256 [(s0 + s1) + (s2 + s3), (s1 + s2) + (s3 + s4), (s2 + s3) + (s4 + s5), (s3 + s4) + (s5 + s6), (s4 + s5) + (s6 + s7), (s5 + s6) + (s7 + 0), (s6 + s7) + 0, (s7 + 0) + 0] := by
    have d : dig 256 [s0 + s1, s1 + s2, s2 + s3, s3 + s4, s4 + s5, s5 + s6, s6 + s7, s7 + 0] / 65536 = dig 256 (([s2 + s3, s3 + s4, s4 + s5, s5 + s6, s6 + s7, s7 + 0] ++ [0]) ++ [0]) := by
      rw [dig_zero, dig_zero]; exact dig_div 256 [s0 + s1, s1 + s2] [s2 + s3, s3 + s4, s4 + s5, s5 + s6, s6 + s7, s7 + 0] 65536 (by simp; omega) 2 rfl (by decide)
    rw [h5, e4, d]
    exact dig_add 256 _ _ rfl
  have e6 : x6 = dig 256 [((s0 + s1) + (s2 + s3)) + ((s4 + s5) + (s6 + s7)), ((s1 + s2) + (s3 + s4)) + ((s5 + s6) + (s7 + 0)), ((s2 + s3) + (s4 + s5)) + ((s6 + s7) + 0), ((s3 + s4) + (s5 + s6)) + ((s7 + 0) + 0), ((s4 + s5) + (s6 + s7)) + 0, ((s5 + s6) + (s7 + 0)) + 0, ((s6 + s7) + 0) + 0, ((s7 + 0) + 0) + 0] := by
    have d : dig 256 [(s0 + s1) + (s2 + s3), (s1 + s2) + (s3 + s4), (s2 + s3) + (s4 + s5), (s3 + s4) + (s5 + s6), (s4 + s5) + (s6 + s7), (s5 + s6) + (s7 + 0), (s6 + s7) + 0, (s7 + 0) + 0] / 4294967296 = dig 256 (((([(s4 + s5) + (s6 + s7), (s5 + s6) + (s7 + 0), (s6 + s7) + 0, (s7 + 0) + 0] ++ [0]) ++ [0]) ++ [0]) ++ [0]) := by
      rw [dig_zero, dig_zero, dig_zero, dig_zero]
      exact dig_div 256 [(s0 + s1) + (s2 + s3), (s1 + s2) + (s3 + s4), (s2 + s3) + (s4 + s5), (s3 + s4) + (s5 + s6)] [(s4 + s5) + (s6 + s7), (s5 + s6) + (s7 + 0), (s6 + s7) + 0, (s7 + 0) + 0] 4294967296 (by simp; omega) 4 rfl (by decide)
    rw [h6, e5, d]
    exact dig_add 256 _ _ rfl
  refine ⟨?_, ?_, ?_, ?_⟩
  · rw [e6]
    obtain ⟨T, hT⟩ : ∃ T, T = dig 256 [((s1 + s2) + (s3 + s4)) + ((s5 + s6) + (s7 + 0)), ((s2 + s3) + (s4 + s5)) + ((s6 + s7) + 0), ((s3 + s4) + (s5 + s6)) + ((s7 + 0) + 0), ((s4 + s5) + (s6 + s7)) + 0, ((s5 + s6) + (s7 + 0)) + 0, ((s6 + s7) + 0) + 0, ((s7 + 0) + 0) + 0] := ⟨_, rfl⟩
    rw [dig, ← hT]
    clear hT e4 e5 e6
    omega
  · rw [e4]; exact dig_lt8 _ rfl (by simp; omega)
  · rw [e5]; exact dig_lt8 _ rfl (by simp; omega)
  · rw [e6]; simp only [dig]; clear e4 e5 e6 h4 h5 h6 hx3; omega
theorem cons_of {l : List Nat} {n : Nat} (h : l.length = n + 1) : ∃ a t, l = a :: t ∧ t.length = n := by
  cases l with
  | nil => simp at h
  | cons a t => exact ⟨a, t, rfl, by simpa using h⟩
set_option maxHeartbeats 1000000 in
theorem onesCount (x x1 x2 x3 x4 x5 x6 : Nat) (hx : x < 2 ^ 64) (h1 : x1 = (x / 2 &&& 6148914691236517205) + (x &&& 6148914691236517205))
    (h2 : x2 = (x1 / 4 &&& 3689348814741910323) + (x1 &&& 3689348814741910323)) (h3 : x3 = (x2 / 16 + x2) &&& 1085102592571150095) (h4 : x4 = x3 + x3 / 256) (h5 : x5 = x4 + x4 / 65536) (h6 : x6 = x5 + x5 / 4294967296) :
    x6 % 128 = cntN x ∧ x1 < 2 ^ 64 ∧ x2 < 2 ^ 64 ∧ x2 / 16 + x2 < 2 ^ 64 ∧ x4 < 2 ^ 64 ∧ x5 < 2 ^ 64 ∧ x6 < 2 ^ 63 ∧ cntN x ≤ 64 := by
  have hl0 := digs_length 2 64 x
  have hb0 := digs_lt 2 (by omega) 64 x
  obtain ⟨a1, a2, a3, a4⟩ := dig_pair 2 32 (digs 2 64 x) hl0
  have hx1 := step_of 2 1 32 6148914691236517205 rfl (digs 2 64 x) hl0 hb0 (by simp [dig, List.replicate])
  rw [dig_digs 2 64 x hx, ← h1] at hx1
  have hx1lt : x1 < 2 ^ 64 := by
    have e1 : (x / 2 &&& 6148914691236517205) ≤ 6148914691236517205 := Nat.and_le_right
    have e2 : (x &&& 6148914691236517205) ≤ 6148914691236517205 := Nat.and_le_right
    omega
  have hlen1 : ((pairUp (digs 2 64 x)).map fun p => p.1 + p.2).length = 2 * 16 := by simpa using a3
  have hb1 : ∀ d ∈ ((pairUp (digs 2 64 x)).map fun p => p.1 + p.2), d < 3 := by
    intro d hd
    obtain ⟨p, hp, rfl⟩ := List.mem_map.1 hd
    have := a4 2 hb0 p hp
    omega
  have hs1 : ((pairUp (digs 2 64 x)).map fun p => p.1 + p.2).sum = cntN x := a2
  generalize ((pairUp (digs 2 64 x)).map fun p => p.1 + p.2) = L1 at hx1 hlen1 hb1 hs1
  clear a1 a2 a3 a4 hl0 hb0
  obtain ⟨c1, c2, c3, c4⟩ := dig_pair 4 16 L1 hlen1
  have hx2 := step_of 4 2 16 3689348814741910323 rfl L1 hlen1 (fun d hd => by have := hb1 d hd; omega) (by simp [dig, List.replicate])
  rw [show dig 4 L1 = x1 from hx1.symm, ← h2] at hx2
  have hsum : ((pairUp L1).map fun p => p.1 + p.2).sum = cntN x := by rw [c2, hs1]
  have hb2 : ∀ d ∈ ((pairUp L1).map fun p => p.1 + p.2), d ≤ 4 := by
    intro d hd
    obtain ⟨p, hp, rfl⟩ := List.mem_map.1 hd
    have := c4 3 hb1 p hp
    omega
  have hlen2 : ((pairUp L1).map fun p => p.1 + p.2).length = 16 := by simpa using c3
  generalize ((pairUp L1).map fun p => p.1 + p.2) = L2 at hx2 hsum hb2 hlen2
  clear c1 c2 c3 c4
  obtain ⟨n0, m0, rfl, k0⟩ := cons_of hlen2
  obtain ⟨n1, m1, rfl, k1⟩ := cons_of k0
  obtain ⟨n2, m2, rfl, k2⟩ := cons_of k1
  obtain ⟨n3, m3, rfl, k3⟩ := cons_of k2
  obtain ⟨n4, m4, rfl, k4⟩ := cons_of k3
  obtain ⟨n5, m5, rfl, k5⟩ := cons_of k4
  obtain ⟨n6, m6, rfl, k6⟩ := cons_of k5
  obtain ⟨n7, m7, rfl, k7⟩ := cons_of k6
  obtain ⟨n8, m8, rfl, k8⟩ := cons_of k7
  obtain ⟨n9, m9, rfl, k9⟩ := cons_of k8
  obtain ⟨n10, m10, rfl, k10⟩ := cons_of k9
  obtain ⟨n11, m11, rfl, k11⟩ := cons_of k10
  obtain ⟨n12, m12, rfl, k12⟩ := cons_of k11
  obtain ⟨n13, m13, rfl, k13⟩ := cons_of k12
  obtain ⟨n14, m14, rfl, k14⟩ := cons_of k13
  obtain ⟨n15, m15, rfl, k15⟩ := cons_of k14
  obtain rfl : m15 = [] := by simpa using k15
  obtain ⟨r1, r2, r3⟩ := ones3 n0 n1 n2 n3 n4 n5 n6 n7 n8 n9 n10 n11 n12 n13 n14 n15 x2 hb2 hx2
  simp only [List.mem_cons, List.not_mem_nil, or_false, forall_eq_or_imp, forall_eq] at hb2
  simp only [List.sum_cons, List.sum_nil] at hsum
  rw [← h3] at r1
  clear h1 h2 h3 hx2
  obtain ⟨s1, s2, s3, s4⟩ := ones4 _ _ _ _ _ _ _ _ x3 x4 x5 x6 (by simp only [List.mem_cons, List.not_mem_nil, or_false, forall_eq_or_imp, forall_eq]; omega) r1 h4 h5 h6
  clear r1 h4 h5 h6
  refine ⟨by omega, hx1lt, r2, r3, s2, s3, s4, by omega⟩
end Go.Abs
