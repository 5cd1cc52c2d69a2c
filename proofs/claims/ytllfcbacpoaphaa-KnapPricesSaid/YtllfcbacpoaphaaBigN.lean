/-
  PLAIN LAW: natural numbers by their digits of 16 bits, the lowest first.
-/
import Derived.Test.YtllfcbacpoaphaaRen
set_option linter.unusedSimpArgs false
set_option linter.unusedVariables false
namespace Go.Abs
open Go
def bval : List Nat → Nat
  | [] => 0
  | d :: l => d + 65536 * bval l
def digF : Nat → Nat → List Nat
  | 0, _ => []
  | f + 1, n => if n = 0 then [] else n % 65536 :: digF f (n / 65536)
def bdig (n : Nat) : List Nat := digF n n
theorem digF_more : ∀ (f g n : Nat), n ≤ f → n ≤ g → digF f n = digF g n
  | 0, g, n, h1, h2 => by
    obtain rfl : n = 0 := by omega
    cases g <;> simp [digF]
  | f + 1, 0, n, h1, h2 => by
    obtain rfl : n = 0 := by omega
    simp [digF]
  | f + 1, g + 1, n, h1, h2 => by
    simp only [digF]
    split
    · rfl
    · rw [digF_more f g (n / 65536) (by omega) (by omega)]
theorem bdig_zero : bdig 0 = [] := rfl
theorem bdig_pos {n : Nat} (h : n ≠ 0) : bdig n = n % 65536 :: bdig (n / 65536) := by
  unfold bdig
  cases n with
  | zero => exact absurd rfl h
  | succ m =>
    simp only [digF, if_neg h]
    rw [digF_more m ((m + 1) / 65536) _ (by omega) (by omega)]
theorem bdig_cons {d s : Nat} (hd : d < 65536) (h : d + 65536 * s ≠ 0) : bdig (d + 65536 * s) = d :: bdig s := by
  rw [bdig_pos h]
  have h1 : (d + 65536 * s) % 65536 = d := by omega
  have h2 : (d + 65536 * s) / 65536 = s := by omega
  rw [h1, h2]
theorem bdig_ind {P : Nat → Prop} (h0 : P 0) (hs : ∀ n, n ≠ 0 → P (n / 65536) → P n) (n : Nat) : P n := by
  induction n using Nat.strongRecOn with
  | _ n ih =>
    by_cases h : n = 0
    · rw [h]; exact h0
    · exact hs n h (ih _ (by omega))
theorem bval_bdig (n : Nat) : bval (bdig n) = n := by
  induction n using bdig_ind with
  | h0 => rfl
  | hs n h ih => rw [bdig_pos h, bval, ih]; omega
theorem bdig_lt (n : Nat) : ∀ d ∈ bdig n, d < 65536 := by
  induction n using bdig_ind with
  | h0 => simp [bdig_zero]
  | hs n h ih =>
    rw [bdig_pos h]
    intro d hd
    rcases List.mem_cons.1 hd with rfl | hd
    · omega
    · exact ih d hd
theorem bdig_inj {a b : Nat} (h : bdig a = bdig b) : a = b := by rw [← bval_bdig a, h, bval_bdig]
theorem bdig_nil {n : Nat} : bdig n = [] ↔ n = 0 := ⟨fun h => bdig_inj (h.trans bdig_zero.symm), fun h => by rw [h]; rfl⟩
theorem bval_append : ∀ (A B : List Nat), bval (A ++ B) = bval A + 65536 ^ A.length * bval B
  | [], B => by simp [bval]
  | a :: A, B => by
    simp only [List.cons_append, bval, bval_append A B, List.length_cons, Nat.pow_succ]
    rw [Nat.mul_add, ← Nat.mul_assoc, Nat.mul_comm 65536 (65536 ^ A.length)]; omega
theorem bval_snoc (A : List Nat) (b : Nat) : bval (A ++ [b]) = bval A + 65536 ^ A.length * b := by rw [bval_append]; simp [bval]
theorem bval_lt : ∀ {A : List Nat}, (∀ d ∈ A, d < 65536) → bval A < 65536 ^ A.length
  | [], _ => by simp [bval]
  | a :: A, h => by
    have h1 := h a (by simp)
    have h2 := bval_lt (A := A) fun d hd => h d (by simp [hd])
    simp only [bval, List.length_cons, Nat.pow_succ]
    omega
theorem bval_take {A : List Nat} {k : Nat} (h : k < A.length) : bval (A.take (k + 1)) = bval (A.take k) + 65536 ^ k * A[k] := by
  rw [List.take_succ_eq_append_getElem h, bval_snoc, List.length_take, Nat.min_eq_left (by omega)]
theorem bval_zero {A : List Nat} (h : ∀ d ∈ A, d = 0) : bval A = 0 := by
  induction A with
  | nil => rfl
  | cons a A ih =>
    have := h a (by simp)
    have := ih fun d hd => h d (by simp [hd])
    simp only [bval]; omega
def LastNz (L : List Nat) (n : Nat) : Prop := n = 0 ∨ ∃ i, n = i + 1 ∧ ∃ h : i < L.length, L[i] ≠ 0
theorem bdig_take : ∀ (L : List Nat), (∀ d ∈ L, d < 65536) → ∀ n, n ≤ L.length → (∀ j (h : j < L.length), n ≤ j → L[j] = 0) → LastNz L n → L.take n = bdig (bval L)
  | [], _, n, hn, _, _ => by simp [bval, bdig_zero]
  | d :: L, hL, 0, _, hz, _ => by
    have : bval (d :: L) = 0 := bval_zero fun e he => by
      obtain ⟨j, hj, rfl⟩ := List.getElem_of_mem he
      exact hz j hj (by omega)
    rw [this]; rfl
  | d :: L, hL, m + 1, hn, hz, hl => by
    have hL' : ∀ e ∈ L, e < 65536 := fun e he => hL e (by simp [he])
    have ih := bdig_take L hL' m (by simpa using hn) (fun j h hj => hz (j + 1) (Nat.succ_lt_succ h) (by omega)) (by
      by_cases hm : m = 0
      · exact .inl hm
      · right
        rcases hl with h | ⟨i, hi, h1, h2⟩
        · omega
        · obtain ⟨k, rfl⟩ : ∃ k, m = k + 1 := ⟨m - 1, by omega⟩
          obtain rfl : k + 1 = i := by omega
          exact ⟨k, rfl, Nat.lt_of_succ_lt_succ h1, h2⟩)
    have hne : d + 65536 * bval L ≠ 0 := by
      by_cases hm : m = 0
      · subst hm
        rcases hl with h | ⟨i, hi, h1, h2⟩
        · omega
        · obtain rfl : i = 0 := by omega
          have h3 : d ≠ 0 := h2
          omega
      · have : bval L ≠ 0 := fun h => by
          rw [h] at ih
          have h3 := congrArg List.length ih
          have h4 : (bdig 0).length = 0 := rfl
          rw [List.length_take, h4] at h3
          have h5 : m + 1 ≤ L.length + 1 := hn
          omega
        omega
    rw [List.take_succ_cons, bval, bdig_cons (hL d (by simp)) hne, ih]
theorem bdig_len {n m : Nat} (h : n < 65536 ^ m) : (bdig n).length ≤ m := by
  induction n using bdig_ind generalizing m with
  | h0 => simp [bdig_zero]
  | hs n hn ih =>
    rw [bdig_pos hn, List.length_cons]
    cases m with
    | zero => simp at h; omega
    | succ m =>
      rw [Nat.pow_succ] at h
      have := ih (m := m) (by omega)
      omega
theorem bdig_ge {n m : Nat} (h : m < (bdig n).length) : 65536 ^ m ≤ n := by
  apply Classical.byContradiction
  intro hc
  have := bdig_len (n := n) (m := m) (by omega)
  omega
def cmpB (a b : Nat) : Int := if a < b then -1 else if b < a then 1 else 0
def cmpZ (a b : Int) : Int := if a < b then -1 else if b < a then 1 else 0
theorem cmpN_len {a b : Nat} (h : (bdig a).length < (bdig b).length) : a < b := by
  have h1 := bdig_ge h
  have h2 := bval_lt (bdig_lt a)
  rw [bval_bdig] at h2
  omega
theorem bval_take_lt {A : List Nat} (h : ∀ d ∈ A, d < 65536) (k : Nat) : bval (A.take k) < 65536 ^ k := by
  have h1 := bval_lt (A := A.take k) fun d hd => h d (List.mem_of_mem_take hd)
  rw [List.length_take] at h1
  exact Nat.lt_of_lt_of_le h1 (Nat.pow_le_pow_right (by omega) (by omega))
theorem bval_split {A : List Nat} {i : Nat} (h : i < A.length) : bval A = bval (A.take i) + 65536 ^ i * (A[i] + 65536 * bval (A.drop (i + 1))) := by
  conv => lhs; rw [← List.take_append_drop i A]
  rw [bval_append, List.length_take, Nat.min_eq_left (by omega), ← List.getElem_cons_drop h]
  simp only [bval]
theorem bval_cmp {A B : List Nat} (hA : ∀ d ∈ A, d < 65536) (hB : ∀ d ∈ B, d < 65536) {i : Nat} (ha : i < A.length) (hb : i < B.length) (hd : A.drop (i + 1) = B.drop (i + 1)) (hlt : A[i] < B[i]) : bval A < bval B := by
  rw [bval_split ha, bval_split hb, hd]
  have h1 := bval_take_lt hA i
  generalize bval (B.drop (i + 1)) = s
  generalize 65536 ^ i = p at *
  have : p * (A[i] + 65536 * s) + p ≤ p * (B[i] + 65536 * s) := by
    rw [← Nat.mul_succ]
    exact Nat.mul_le_mul_left _ (by omega)
  omega
instance : Ren Nat where
  sz := 1
  R := fun _ _ cs n => cs = [uv n] ∧ n < 18446744073709551616
  len := fun h => by rw [h.1]; rfl
  up := fun _ _ h => h
@[simp] theorem sz_nat : Ren.sz Nat = 1 := rfl
section
variable {p : Nat → Prop} {H : AH} {v : Value}
theorem nats_rd {l : List Nat} (h : SlV p H v l) (h0 : 0 < l.length) : ∃ b off sp cap cs, v = .slice (some ⟨b, off, sp⟩) l.length cap ∧ H.cells b = some cs ∧ ∀ k (hk : k < l.length), cs[off + k]? = some (uv l[k]) := by
  obtain ⟨b, off, sp, cap, cs, e, q1, q2, q3, q4, q5⟩ := h.at h0
  refine ⟨b, off, sp, cap, cs, e, q3, fun k hk => ?_⟩
  obtain ⟨c, c1, c2, c3⟩ := q5 k hk
  subst c2
  obtain ⟨g1, g2, g3, g4⟩ := cut_spec c1
  have := g4 0 (by simp)
  simpa using this
end
end Go.Abs
namespace Go.Abs
open Go
def bdg (u i : Nat) : Nat := u / 65536 ^ i % 65536
theorem bval_bdg (u : Nat) : ∀ k, bval ((List.range k).map (bdg u)) = u % 65536 ^ k
  | 0 => by simp [bval, Nat.mod_one]
  | k + 1 => by
    rw [List.range_succ, List.map_append, List.map_singleton, bval_snoc, bval_bdg u k, List.length_map, List.length_range, Nat.pow_succ, Nat.mod_mul]
    rfl
theorem bdg_lt {u k : Nat} : ∀ d ∈ (List.range k).map (bdg u), d < 65536 := by
  intro d hd
  obtain ⟨i, _, rfl⟩ := List.mem_map.1 hd
  exact Nat.mod_lt _ (by omega)
theorem bval_bdg4 {u : Nat} (h : u < 18446744073709551616) : bval ((List.range 4).map (bdg u)) = u := by
  rw [bval_bdg]; exact Nat.mod_eq_of_lt h
theorem cmpB_eq {a b : Nat} : cmpB a b = 0 ↔ a = b := by
  unfold cmpB
  split
  · omega
  · split <;> omega
theorem cmpZ_of (a b : Int) : cmpZ a b = if decide (a < 0) = decide (b < 0) then (if a < 0 then -cmpB a.natAbs b.natAbs else cmpB a.natAbs b.natAbs) else (if a < 0 then -1 else 1) := by
  unfold cmpZ cmpB
  by_cases ha : a < 0 <;> by_cases hb : b < 0
  · rw [decide_eq_true ha, decide_eq_true hb, if_pos rfl, if_pos ha]; repeat' split
    all_goals omega
  · rw [decide_eq_true ha, decide_eq_false hb]
    simp only [Bool.true_eq_false, if_false, if_pos ha]
    rw [if_pos (by omega)]
  · rw [decide_eq_false ha, decide_eq_true hb]
    simp only [Bool.false_eq_true, if_false, if_neg ha]
    rw [if_neg (by omega), if_pos (by omega)]
  · rw [decide_eq_false ha, decide_eq_false hb, if_pos rfl, if_neg ha]; repeat' split
    all_goals omega
end Go.Abs
namespace Go.Abs
open Go
theorem bval_takeD (A : List Nat) (k : Nat) : bval (A.take (k + 1)) = bval (A.take k) + 65536 ^ k * A.getD k 0 := by
  by_cases h : k < A.length
  · rw [bval_take h, List.getD_eq_getElem?_getD, List.getElem?_eq_getElem h]; rfl
  · rw [List.take_of_length_le (by omega), List.take_of_length_le (by omega), List.getD_eq_getElem?_getD, List.getElem?_eq_none (by omega)]
    simp
theorem bval_set : ∀ (D : List Nat) (j x : Nat), j < D.length → bval (D.set j x) + 65536 ^ j * D.getD j 0 = bval D + 65536 ^ j * x
  | [], j, x, h => by simp at h
  | d :: D, 0, x, h => by simp [bval]; omega
  | d :: D, j + 1, x, h => by
    have ih := bval_set D j x (by simpa using h)
    simp only [List.set_cons_succ, bval, List.getD_cons_succ, Nat.pow_succ]
    have e1 : 65536 ^ j * 65536 * D.getD j 0 = 65536 * (65536 ^ j * D.getD j 0) := by rw [Nat.mul_comm (65536 ^ j) 65536, Nat.mul_assoc]
    have e2 : 65536 ^ j * 65536 * x = 65536 * (65536 ^ j * x) := by rw [Nat.mul_comm (65536 ^ j) 65536, Nat.mul_assoc]
    rw [e1, e2]
    omega
theorem add_round {P s va vb x y o c : Nat} (hs : s = c + x + y) (h : o + P * c = va + vb) : o + P * (s % 65536) + P * 65536 * (s / 65536) = (va + P * x) + (vb + P * y) := by
  have h1 : P * (s % 65536) + P * 65536 * (s / 65536) = P * s := by
    rw [Nat.mul_assoc, ← Nat.mul_add, Nat.mod_add_div]
  have h2 : P * s = P * c + P * x + P * y := by rw [hs, Nat.mul_add, Nat.mul_add]
  omega
theorem mul_round {P Q s vd d c a b t vd' : Nat} (hs : s = c + d + a * b) (h : vd + P * c = t) (hset : vd' + P * d = vd + P * (s % 65536)) : vd' + P * 65536 * (s / 65536) = t + P * (a * b) := by
  have h1 : P * (s % 65536) + P * 65536 * (s / 65536) = P * s := by
    rw [Nat.mul_assoc, ← Nat.mul_add, Nat.mod_add_div]
  have h2 : P * s = P * c + P * d + P * (a * b) := by rw [hs, Nat.mul_add, Nat.mul_add]
  omega
theorem pow_le_cancel {i j c T : Nat} (h1 : 65536 ^ i * c ≤ T) (hc : 0 < c) (h2 : T < 65536 ^ j) : i < j := by
  apply Classical.byContradiction
  intro hn
  have h3 : 65536 ^ j ≤ 65536 ^ i := Nat.pow_le_pow_right (by omega) (by omega)
  have h4 := Nat.mul_le_mul_left (65536 ^ i) (show 1 ≤ c by omega)
  omega
end Go.Abs
