/-
  PLAIN LAW: what has a place is the order of that place; what are digits of a number are that number's.
-/
import Derived.Test.YtlcddhgfkkjhkaaBrute
import Derived.Test.YtlcddhgfkkjhkaaTame

set_option linter.unusedSimpArgs false
set_option linter.unusedVariables false
namespace Go.Abs
theorem place_inj : ∀ {X left : List Int} {k : Nat}, X.length = left.length → placeL left X = some k → k < fac left.length ∧ orderL left.length left k = X
  | [], left, k, h, hp => by
    obtain rfl : left = [] := List.eq_nil_of_length_eq_zero h.symm
    have : 0 = k := by simpa [placeL] using hp
    subst this
    exact ⟨by decide, rfl⟩
  | y :: X, [], k, h, hp => by simp at h
  | y :: X, a :: l, k, h, hp => by
    have hX : X.length = l.length := by simpa using h
    unfold placeL at hp
    by_cases hy : y ∈ a :: l
    · rw [if_pos hy] at hp
      have hi := List.idxOf_lt_length_of_mem hy
      have hgi : (a :: l)[(a :: l).idxOf y] = y := List.getElem_idxOf hi
      generalize (a :: l).idxOf y = i at *
      obtain ⟨k', e1, e2⟩ : ∃ k', placeL ((a :: l).eraseIdx i) X = some k' ∧ i * fac l.length + k' = k := by
        cases hq : placeL ((a :: l).eraseIdx i) X with
        | none => rw [hq] at hp; simp at hp
        | some k' => rw [hq] at hp; exact ⟨k', rfl, by simpa using hp⟩
      have hel : ((a :: l).eraseIdx i).length = l.length := by rw [List.length_eraseIdx_of_lt hi]; simp
      obtain ⟨q1, q2⟩ := place_inj (left := (a :: l).eraseIdx i) (by rw [hel, hX]) e1
      rw [hel] at q1 q2
      have hp' := fac_pos l.length
      have hd : k / fac l.length = i := by rw [← e2, Nat.mul_comm, Nat.mul_add_div hp', Nat.div_eq_of_lt q1, Nat.add_zero]
      have hm : k % fac l.length = k' := by rw [← e2, Nat.mul_comm, Nat.mul_add_mod, Nat.mod_eq_of_lt q1]
      constructor
      · show k < (l.length + 1) * fac l.length
        have h1 : i * fac l.length + k' < i * fac l.length + fac l.length := by omega
        rw [← Nat.succ_mul] at h1
        have h2 : (i + 1) * fac l.length ≤ (l.length + 1) * fac l.length := Nat.mul_le_mul_right _ (by have := hi; simp at this; omega)
        have h3 : i.succ * fac l.length = (i + 1) * fac l.length := rfl
        omega
      · show (a :: l).getD (k / fac l.length) 0 :: orderL l.length ((a :: l).eraseIdx (k / fac l.length)) (k % fac l.length) = _
        rw [hd, hm, q2, List.getD_eq_getElem?_getD, List.getElem?_eq_getElem hi]
        simp [hgi]
    · rw [if_neg hy] at hp; cases hp
theorem chosen_zero (f k : Nat) : chosenL f k 0 = [] := by cases f <;> rfl
theorem mask_inj {n : Nat} : ∀ (f : Nat) {k : Nat} {l : List Int} {r : Nat}, n ≤ k + f → maskL n ((k : Int) - 1) l = some r → ∃ m, r = m * 2 ^ k ∧ m < 2 ^ f ∧ chosenL f k m = l
  | f, k, [], r, _, h => by
    have : 0 = r := by simpa [maskL] using h
    subst this
    exact ⟨0, by simp, Nat.two_pow_pos f, chosen_zero f k⟩
  | 0, k, x :: l, r, hn, h => by
    unfold maskL at h
    rw [if_pos (by omega)] at h; cases h
  | f + 1, k, x :: l, r, hn, h => by
    have h0 := h
    unfold maskL at h
    by_cases hx : x ≤ (k : Int) - 1 ∨ (n : Int) ≤ x
    · rw [if_pos hx] at h; cases h
    · rw [if_neg hx] at h
      have hk1 : ((k + 1 : Nat) : Int) - 1 = k := by omega
      by_cases hxk : x = k
      · subst hxk
        obtain ⟨r', e1, e2⟩ : ∃ r', maskL n k l = some r' ∧ 2 ^ k + r' = r := by
          cases hq : maskL n k l with
          | none => rw [hq] at h; simp at h
          | some r' => rw [hq] at h; exact ⟨r', rfl, by simpa using h⟩
        obtain ⟨m, q1, q2, q3⟩ := mask_inj (n := n) f (k := k + 1) (l := l) (r := r') (by omega) (by rw [hk1]; exact e1)
        refine ⟨2 * m + 1, ?_, by rw [Nat.pow_succ]; omega, ?_⟩
        · rw [← e2, q1, Nat.pow_succ, Nat.add_mul, Nat.one_mul, Nat.mul_comm 2 m, Nat.mul_assoc, Nat.mul_comm 2]; omega
        · show (if 2 * m + 1 = 0 then [] else (if (2 * m + 1) % 2 = 1 then [(k : Int)] else []) ++ chosenL f (k + 1) ((2 * m + 1) / 2)) = _
          rw [if_neg (by omega), if_pos (by omega), show (2 * m + 1) / 2 = m by omega, q3]; rfl
      · have h1 : maskL n (((k + 1 : Nat) : Int) - 1) (x :: l) = some r := by
          rw [hk1]; unfold maskL; rw [if_neg (by omega)]; exact h
        obtain ⟨m, q1, q2, q3⟩ := mask_inj (n := n) f (k := k + 1) (l := x :: l) (r := r) (by omega) h1
        have hm0 : m ≠ 0 := fun e => by subst e; rw [chosen_zero] at q3; cases q3
        refine ⟨2 * m, ?_, by rw [Nat.pow_succ]; omega, ?_⟩
        · rw [q1, Nat.pow_succ, Nat.mul_comm 2 m, Nat.mul_assoc, Nat.mul_comm 2]
        · show (if 2 * m = 0 then [] else (if (2 * m) % 2 = 1 then [(k : Int)] else []) ++ chosenL f (k + 1) ((2 * m) / 2)) = _
          rw [if_neg (by omega), if_neg (by omega), show (2 * m) / 2 = m by omega, q3]; rfl
end Go.Abs

set_option maxRecDepth 100000
namespace Go.Proofs.Ytlcddhgfkkjhkaa
open Go Go.Abs
theorem rank_some {x : InstD} {Y : List Int} {i : Nat} (hc : x.countE = 0) (h : x.rank Y = some i) : (i : Int) < x.count ∧ x.at i = Y := by
  by_cases hs : x.kind = 0 ∨ x.kind = 3
  · obtain ⟨hok, N, hN, hn, hcn⟩ := count_sub hc hs
    unfold InstD.rank at h
    rw [if_pos hs, hn] at h
    have e0 : ((0 : Nat) : Int) - 1 = -1 := rfl
    obtain ⟨m, q1, q2, q3⟩ := mask_inj (n := N) N (k := 0) (l := Y) (r := i) (by omega) (by rw [e0]; exact h)
    obtain ⟨m', r1, r2, r3⟩ := mask_inj (n := N) 20 (k := 0) (l := Y) (r := i) (by omega) (by rw [e0]; exact h)
    simp only [Nat.pow_zero, Nat.mul_one] at q1 r1
    subst q1
    subst r1
    refine ⟨by rw [hcn]; omega, ?_⟩
    unfold InstD.at
    rw [if_pos hs]; exact r3
  · obtain ⟨hok, hf1, hf2, hcn, hcl⟩ := count_ord hc hs
    unfold InstD.rank placeO at h
    rw [if_neg hs] at h
    by_cases hl : Y.length = x.cost.length ∧ Y.take (fix1 x.kind) = restL 0 (fix1 x.kind)
    · rw [if_pos hl] at h
      obtain ⟨q1, q2⟩ := place_inj (by rw [List.length_drop, restL_len, hl.1]) h
      rw [restL_len] at q1 q2
      refine ⟨by rw [hcn]; omega, ?_⟩
      unfold InstD.at
      rw [if_neg hs, q2, ← hl.2, List.take_append_drop]
    · rw [if_neg hl] at h; cases h
theorem at_rank {x : InstD} {Y : List Int} {i : Nat} (hc : x.countE = 0) (hi : (i : Int) < x.count) : x.at i = Y ↔ x.rank Y = some i :=
  ⟨fun h => by rw [← h]; exact rank_at hc hi, fun h => (rank_some hc h).2⟩
theorem At_out {H : AH} {v : Value} {x : InstD} {k : Int} (hx : InstV (fun b => b < H.next) H v x) (hc : x.countE = 0) (hk : k < 0 ∨ x.count ≤ k) : AFn Try.prog F_brute_At [v, .int .i64 k] H fun u H' => u = .tuple #[.slice none 0 0, .int .i64 3] ∧ Keep [] H H' := by
  obtain ⟨iv, cv, sv, rfl, i1, i2, i3, h1, h2, h3⟩ := id hx
  refine AFn.enter mixed ir_brute_At_eq (by simp [ir_brute_At]) fun hw => ?_
  have bc : (H.alloc (.row (instC x iv cv sv) T_inst_Inst true)).cells H.next = some (instC x iv cv sv) := AH.cells_alloc_new
  have hx1 := (hx.kept hw (.alloc (B := .row (instC x iv cv sv) T_inst_Inst true))).any
  have k1 : Keep [] H (H.alloc (.row (instC x iv cv sv) T_inst_Inst true)) := .alloc
  generalize hq : H.next = q at *
  simp (disch := omega) [-getElem?_pos, if_pos, if_neg, decide_eq_true, decide_eq_false, ir_brute_At, hq, inst_cut]
  generalize H.alloc (.row (instC x iv cv sv) T_inst_Inst true) = H1 at *
  refine AFn.pure (Count_spec hx1) ?_
  by_cases h0 : k < 0
  · simp (disch := omega) [-getElem?_pos, if_pos, if_neg, decide_eq_true, decide_eq_false, hc, h0]
    exact k1
  · have h2 : x.count ≤ k := by omega
    simp (disch := omega) [-getElem?_pos, if_pos, if_neg, decide_eq_true, decide_eq_false, hc, h0, h2]
    exact k1
theorem clip_tame {m : Nat} {y : InstD} (hm : m ≤ 40) (h : Tame m y) : clipI y = y := by
  obtain ⟨kind, cap, items, cost, size, sets⟩ := y
  have h1 := h.items
  have h2 := h.cost
  have h3 := h.sets
  have h4 := h.elems
  have h5 := h.ok.shaped.rows
  unfold clipI
  simp only at h1 h2 h3 h4 h5 ⊢
  rw [List.take_of_length_le (show items.length ≤ 40 by omega), List.take_of_length_le (show cost.length ≤ 70 by omega), List.take_of_length_le (show sets.length ≤ 40 by omega)]
  congr 1
  · conv => rhs; rw [← List.map_id cost]
    apply List.map_congr_left
    intro r hr
    obtain ⟨i, hi, rfl⟩ := List.getElem_of_mem hr
    exact List.take_of_length_le (by rw [h5 i hi]; omega)
  · conv => rhs; rw [← List.map_id sets]
    apply List.map_congr_left
    intro s hs
    have := h4 s hs
    obtain ⟨c, e⟩ := s
    show SetD.mk c (e.take 40) = ⟨c, e⟩
    rw [List.take_of_length_le (by simp only at this; omega)]
theorem tame_count {m : Nat} {y : InstD} (hm : m ≤ 8) (h : Tame m y) : y.countE = 0 ∧ ∃ C : Nat, y.count = C ∧ 1 ≤ C ∧ C ≤ 1048576 := by
  have hc := InstD.check_ok.2 h.ok
  have hr := InstD.n_range h.ok
  have hn : y.n.toNat ≤ 8 := by
    have h1 := h.items
    have h2 := h.cost
    have h3 := h.sets
    unfold InstD.n
    rw [if_pos hc]
    repeat' split
    all_goals omega
  have hp : ∀ N : Fin 9, prodI (fun _ => 2) N.1 ≤ 1048576 ∧ prodI (fun k => (k : Int) + 1) N.1 ≤ 1048576 := by decide
  have hm1 : y.many ≤ 1048576 := by
    unfold InstD.many
    by_cases hs : y.kind = 0 ∨ y.kind = 3
    · simp only [hs, if_true]; exact (hp ⟨y.n.toNat, by omega⟩).1
    · simp only [hs, if_false]; exact (hp ⟨y.n.toNat, by omega⟩).2
  have hm2 : 1 ≤ y.many := prodI_ge _ (fun k => by split <;> omega) _
  unfold InstD.countE InstD.count
  rw [if_pos hc, if_pos hc, if_neg (by omega), if_neg (by omega)]
  exact ⟨rfl, y.many.toNat, by omega, by omega, by omega⟩
theorem chosen_max3 : ∀ (f : Nat) {k m : Nat}, (chosenL f k m).length ≤ f
  | 0, k, m => by simp [chosenL]
  | f + 1, k, m => by
    have ih := chosen_max3 f (k := k + 1) (m := m / 2)
    unfold chosenL
    split
    · simp
    · rw [List.length_append]
      split <;> simp <;> omega
theorem at_max3 {x : InstD} {k : Nat} (hc : x.countE = 0) (hk : (k : Int) < x.count) : (x.at k).length ≤ 100 := by
  by_cases hs : x.kind = 0 ∨ x.kind = 3
  · unfold InstD.at
    rw [if_pos hs]
    have := chosen_max3 20 (k := 0) (m := k)
    omega
  · rw [at_len hc hk hs]
    have := (count_ord hc hs).2.2.2.2
    omega
end Go.Proofs.Ytlcddhgfkkjhkaa
