/-
  PLAIN LAW: the next order behind that of a place is that of the next place.
-/
import Derived.Test.YtlcddhgfkkjhkaaLehmer
set_option linter.unusedSimpArgs false
set_option linter.unusedVariables false
namespace Go.Abs
/-- The next order of numbers, if there is one: what comes first stays as long as there is a next one of the rest; else the least greater one of the rest comes first, and the rest rises. -/
def nextL : List Int → Option (List Int)
  | [] => none
  | a :: l => match nextL l with
    | some l' => some (a :: l')
    | none => match l.reverse.findIdx? (fun y => decide (a < y)) with
      | some j => some (l.reverse.getD j 0 :: l.reverse.set j a)
      | none => none

theorem order_first : ∀ (f : Nat) {left : List Int}, left.length = f → orderL f left 0 = left
  | 0, left, h => by rw [List.eq_nil_of_length_eq_zero h]; rfl
  | f + 1, [], h => by simp at h
  | f + 1, a :: l, h => by
    have hl : l.length = f := by simpa using h
    show (a :: l).getD (0 / fac l.length) 0 :: orderL f ((a :: l).eraseIdx (0 / fac l.length)) (0 % fac l.length) = _
    rw [Nat.zero_div, Nat.zero_mod]
    simp [order_first f hl]
theorem order_next : ∀ (f : Nat) {left : List Int} {k : Nat}, left.length = f → left.Pairwise (· < ·) → k < fac f →
    (k + 1 < fac f → nextL (orderL f left k) = some (orderL f left (k + 1))) ∧ (k + 1 = fac f → orderL f left k = left.reverse ∧ nextL (orderL f left k) = none)
  | 0, left, k, h, hs, hk => by
    have : k = 0 := by simpa [fac] using hk
    subst this
    refine ⟨fun h => by simp [fac] at h, fun _ => ?_⟩
    rw [List.eq_nil_of_length_eq_zero h]
    exact ⟨rfl, rfl⟩
  | f + 1, [], k, h, hs, hk => by simp at h
  | f + 1, a :: l, k, h, hs, hk => by
    have hl : l.length = f := by simpa using h
    have hp := fac_pos f
    have hor : ∀ k, orderL (f + 1) (a :: l) k = (a :: l).getD (k / fac f) 0 :: orderL f ((a :: l).eraseIdx (k / fac f)) (k % fac f) := fun k => by rw [← hl]; rfl
    have hfs : fac (f + 1) = (f + 1) * fac f := rfl
    rw [hfs] at hk ⊢
    generalize hL : a :: l = L at *
    have hLl : L.length = f + 1 := h
    obtain ⟨i, r, hi, hr, rfl⟩ : ∃ i r, i < f + 1 ∧ r < fac f ∧ k = i * fac f + r := ⟨k / fac f, k % fac f, by rw [Nat.div_lt_iff_lt_mul hp]; exact hk, Nat.mod_lt _ hp, by rw [Nat.mul_comm]; exact (Nat.div_add_mod _ _).symm⟩
    have hd : (i * fac f + r) / fac f = i := by rw [Nat.mul_comm, Nat.mul_add_div hp, Nat.div_eq_of_lt hr, Nat.add_zero]
    have hm : (i * fac f + r) % fac f = r := by rw [Nat.mul_comm, Nat.mul_add_mod, Nat.mod_eq_of_lt hr]
    have hiL : i < L.length := by omega
    have hel : (L.eraseIdx i).length = f := by rw [List.length_eraseIdx_of_lt hiL]; omega
    have hse : (L.eraseIdx i).Pairwise (· < ·) := List.Pairwise.sublist (List.eraseIdx_sublist _ _) hs
    obtain ⟨ih1, ih2⟩ := order_next f (left := L.eraseIdx i) (k := r) hel hse hr
    have hg : L.getD i 0 = L[i] := by rw [List.getD_eq_getElem?_getD, List.getElem?_eq_getElem hiL]; rfl
    rw [hor, hd, hm, hg]
    by_cases hr1 : r + 1 < fac f
    · have hd1 : (i * fac f + r + 1) / fac f = i := by rw [Nat.add_assoc, Nat.mul_comm, Nat.mul_add_div hp, Nat.div_eq_of_lt hr1, Nat.add_zero]
      have hm1 : (i * fac f + r + 1) % fac f = r + 1 := by rw [Nat.add_assoc, Nat.mul_comm, Nat.mul_add_mod, Nat.mod_eq_of_lt hr1]
      refine ⟨fun _ => ?_, fun hc => ?_⟩
      · rw [hor, hd1, hm1, hg]
        unfold nextL
        rw [ih1 hr1]
      · have : (i + 1) * fac f ≤ (f + 1) * fac f := Nat.mul_le_mul_right _ (by omega)
        rw [Nat.succ_mul i] at this
        omega
    · obtain ⟨e1, e2⟩ := ih2 (by omega)
      have hk1 : i * fac f + r + 1 = (i + 1) * fac f := by rw [Nat.succ_mul]; omega
      have hsplit : L = L.take i ++ L[i] :: L.drop (i + 1) := by rw [List.getElem_cons_drop, List.take_append_drop]
      have her : L.eraseIdx i = L.take i ++ L.drop (i + 1) := List.eraseIdx_eq_take_drop_succ _ _
      have hti : (L.take i).length = i := by rw [List.length_take]; omega
      have hs' := hs
      rw [hsplit, List.pairwise_append, List.pairwise_cons] at hs'
      obtain ⟨s1, ⟨s2, s3⟩, s4⟩ := hs'
      have hlow : ∀ y ∈ L.take i, ¬ L[i] < y := fun y hy => by have := s4 y hy L[i] (.head _); omega
      refine ⟨fun hc => ?_, fun hc => ?_⟩
      · rw [hk1] at hc ⊢
        have hi1 : i + 1 < f + 1 := Nat.lt_of_mul_lt_mul_right hc
        have hi1L : i + 1 < L.length := by omega
        have hdr : L.drop (i + 1) = L[i + 1] :: L.drop (i + 2) := (List.getElem_cons_drop hi1L).symm
        rw [hor, Nat.mul_div_cancel _ hp, Nat.mul_mod_left, order_first f (by rw [List.length_eraseIdx_of_lt hi1L]; omega)]
        unfold nextL
        rw [e2, e1, List.reverse_reverse]
        have hlt : L[i] < L[i + 1] := s2 _ (by rw [hdr]; exact .head _)
        have hfi : (L.eraseIdx i).findIdx? (fun y => decide (L[i] < y)) = some i := by
          rw [her, hdr, List.findIdx?_append, List.findIdx?_eq_none_iff.2 (by simpa using hlow), List.findIdx?_cons]
          simp [hlt, hti]
        rw [hfi]
        show some _ = some _
        have h1 : (L.eraseIdx i).getD i 0 = L.getD (i + 1) 0 := by
          rw [List.getD_eq_getElem?_getD, List.getD_eq_getElem?_getD, List.getElem?_eraseIdx, if_neg (by omega)]
        have h2 : (L.eraseIdx i).set i L[i] = L.eraseIdx (i + 1) := by
          have e3 : L.eraseIdx (i + 1) = L.take (i + 1) ++ L.drop (i + 2) := List.eraseIdx_eq_take_drop_succ _ _
          rw [her, hdr, e3, List.take_succ_eq_append_getElem hiL, List.set_append_right _ _ (by omega), hti, Nat.sub_self, List.append_assoc]
          rfl
        rw [h1, h2]
      · rw [hk1] at hc
        have hif : i = f := by have := Nat.eq_of_mul_eq_mul_right hp hc; omega
        subst hif
        have hdn : L.drop (i + 1) = [] := List.drop_eq_nil_of_le (by omega)
        rw [hdn, List.append_nil] at her
        refine ⟨?_, ?_⟩
        · rw [e1, her]
          conv => rhs; rw [hsplit, hdn, List.reverse_append]
          rfl
        · unfold nextL
          rw [e2, e1, List.reverse_reverse, her, List.findIdx?_eq_none_iff.2 (by simpa using hlow)]

theorem next_cons {a : Int} {l : List Int} : nextL (a :: l) = match nextL l with
    | some l' => some (a :: l')
    | none => match l.reverse.findIdx? (fun y => decide (a < y)) with
      | some j => some (l.reverse.getD j 0 :: l.reverse.set j a)
      | none => none := rfl
theorem next_none : ∀ {l : List Int}, nextL l = none ↔ l.Pairwise fun x y => y ≤ x
  | [] => by simp [nextL]
  | a :: l => by
    have ih := next_none (l := l)
    rw [List.pairwise_cons, ← ih, next_cons]
    cases hn : nextL l with
    | some l' => simp
    | none =>
      cases hf : l.reverse.findIdx? (fun y => decide (a < y)) with
      | some j =>
        have hex : ∃ y ∈ l, a < y := by
          apply Classical.byContradiction
          intro hc
          have : l.reverse.findIdx? (fun y => decide (a < y)) = none := List.findIdx?_eq_none_iff.2 fun y hy => by
            simp
            exact Int.not_lt.1 fun h => hc ⟨y, by simpa using hy, h⟩
          rw [this] at hf; cases hf
        obtain ⟨y, hy, hj⟩ := hex
        constructor
        · intro h; cases h
        · rintro ⟨h, _⟩
          have := h y hy
          omega
      | none =>
        have := List.findIdx?_eq_none_iff.1 hf
        refine ⟨fun _ => ⟨fun y hy => ?_, rfl⟩, fun _ => rfl⟩
        have := this y (by simpa using hy)
        simp at this
        omega
theorem next_front : ∀ {P Z Z' : List Int}, nextL Z = some Z' → nextL (P ++ Z) = some (P ++ Z')
  | [], Z, Z', h => h
  | a :: P, Z, Z', h => by
    show (match nextL (P ++ Z) with
      | some l' => some (a :: l')
      | none => _) = _
    rw [next_front h]; rfl
/-- Each no greater than the one ahead of it: so it is with every two. -/
theorem falls : ∀ {l : List Int}, (∀ i (h : i + 1 < l.length), l[i + 1] ≤ l[i]) → l.Pairwise fun x y => y ≤ x
  | [], _ => .nil
  | [a], _ => by simp
  | a :: b :: l, h => by
    have ih := falls (l := b :: l) fun i hi => h (i + 1) (by simpa using hi)
    have h0 : b ≤ a := h 0 (by simp)
    rw [List.pairwise_cons]
    refine ⟨fun y hy => ?_, ih⟩
    rcases List.mem_cons.1 hy with rfl | hy
    · exact h0
    · have := (List.pairwise_cons.1 ih).1 y hy
      omega
end Go.Abs
