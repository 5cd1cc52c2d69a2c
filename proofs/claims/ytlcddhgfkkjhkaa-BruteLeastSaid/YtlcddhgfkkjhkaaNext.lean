/-
  PLAIN LAW: the next order behind that of a place is that of the next place.
-/
import Derived.Test.YtlcddhgfkkjhkaaBrute

set_option linter.unusedSimpArgs false
set_option linter.unusedVariables false
namespace Go.Abs
def nextL : List Int → Option (List Int)
  | [] => none
  | a :: l => match nextL l with
    | some l' => some (a :: l')
    | none => match l.reverse.findIdx? (fun y => decide (a < y)) with
      | some j => some (l.reverse.getD j 0 :: l.reverse.set j a)
      | none => none
theorem order_first : ∀ (f : Nat) {left : List Int}, left.length = f → orderL f left 0 = left
  | 0, left, h => by rw [List.eq_nil_of_length_eq_zero h]; rfl
  | f + 1, [], h => by simp at h
  | f + 1, a :: l, h => by
    have hl : l.length = f := by simpa using h
    show (a :: l).getD (0 / fac l.length) 0 :: orderL f ((a :: l).eraseIdx (0 / fac l.length)) (0 % fac l.length) = _
    rw [Nat.zero_div, Nat.zero_mod]
    simp [order_first f hl]
theorem order_next : ∀ (f : Nat) {left : List Int} {k : Nat}, left.length = f → left.Pairwise (· < ·) → k < fac f →
    (k + 1 < fac f → nextL (orderL f left k) = some (orderL f left (k + 1))) ∧ (k + 1 = fac f → orderL f left k = left.reverse ∧ nextL (orderL f left k) = none)
  | 0, left, k, h, hs, hk => by
    have : k = 0 := by simpa [fac] using hk
    subst this
    refine ⟨fun h => by simp [fac] at h, fun _ => ?_⟩
    rw [List.eq_nil_of_length_eq_zero h]
    exact ⟨rfl, rfl⟩
  | f + 1, [], k, h, hs, hk => by simp at h
  | f + 1, a :: l, k, h, hs, hk => by
    have hl : l.length = f := by simpa using h
    have hp := fac_pos f
    have hor : ∀ k, orderL (f + 1) (a :: l) k = (a :: l).getD (k / fac f) 0 :: orderL f ((a :: l).eraseIdx (k / fac f)) (k % fac f) := fun k => by rw [← hl]; rfl
    have hfs : fac (f + 1) = (f + 1) * fac f := rfl
    rw [hfs] at hk ⊢
    generalize hL : a :: l = L at *
    have hLl : L.length = f + 1 := h
    obtain ⟨i, r, hi, hr, rfl⟩ : ∃ i r, i < f + 1 ∧ r < fac f ∧ k = i * fac f + r := ⟨k / fac f, k % fac f, by rw [Nat.div_lt_iff_lt_mul hp]; exact hk, Nat.mod_lt _ hp, by rw [Nat.mul_comm]; exact (Nat.div_add_mod _ _).symm⟩
    have hd : (i * fac f + r) / fac f = i := by rw [Nat.mul_comm, Nat.mul_add_div hp, Nat.div_eq_of_lt hr, Nat.add_zero]
    have hm : (i * fac f + r) % fac f = r := by rw [Nat.mul_comm, Nat.mul_add_mod, Nat.mod_eq_of_lt hr]
    have hiL : i < L.length := by omega
    have hel : (L.eraseIdx i).length = f := by rw [List.length_eraseIdx_of_lt hiL]; omega
    have hse : (L.eraseIdx i).Pairwise (· < ·) := List.Pairwise.sublist (List.eraseIdx_sublist _ _) hs
    obtain ⟨ih1, ih2⟩ := order_next f (left := L.eraseIdx i) (k := r) hel hse hr
    have hg : L.getD i 0 = L[i] := by rw [List.getD_eq_getElem?_getD, List.getElem?_eq_getElem hiL]; rfl
    rw [hor, hd, hm, hg]
    by_cases hr1 : r + 1 < fac f
    · have hd1 : (i * fac f + r + 1) / fac f = i := by rw [Nat.add_assoc, Nat.mul_comm, Nat.mul_add_div hp, Nat.div_eq_of_lt hr1, Nat.add_zero]
      have hm1 : (i * fac f + r + 1) % fac f = r + 1 := by rw [Nat.add_assoc, Nat.mul_comm, Nat.mul_add_mod, Nat.mod_eq_of_lt hr1]
      refine ⟨fun _ => ?_, fun hc => ?_⟩
      · rw [hor, hd1, hm1, hg]
        unfold nextL
        rw [ih1 hr1]
      · have : (i + 1) * fac f ≤ (f + 1) * fac f := Nat.mul_le_mul_right _ (by omega)
        rw [Nat.succ_mul i] at this
        omega
    · obtain ⟨e1, e2⟩ := ih2 (by omega)
      have hk1 : i * fac f + r + 1 = (i + 1) * fac f := by rw [Nat.succ_mul]; omega
      have hsplit : L = L.take i ++ L[i] :: L.drop (i + 1) := by rw [List.getElem_cons_drop, List.take_append_drop]
      have her : L.eraseIdx i = L.take i ++ L.drop (i + 1) := List.eraseIdx_eq_take_drop_succ _ _
      have hti : (L.take i).length = i := by rw [List.length_take]; omega
      have hs' := hs
      rw [hsplit, List.pairwise_append, List.pairwise_cons] at hs'
      obtain ⟨s1, ⟨s2, s3⟩, s4⟩ := hs'
      have hlow : ∀ y ∈ L.take i, ¬ L[i] < y := fun y hy => by have := s4 y hy L[i] (.head _); omega
      refine ⟨fun hc => ?_, fun hc => ?_⟩
      · rw [hk1] at hc ⊢
        have hi1 : i + 1 < f + 1 := Nat.lt_of_mul_lt_mul_right hc
        have hi1L : i + 1 < L.length := by omega
        have hdr : L.drop (i + 1) = L[i + 1] :: L.drop (i + 2) := (List.getElem_cons_drop hi1L).symm
        rw [hor, Nat.mul_div_cancel _ hp, Nat.mul_mod_left, order_first f (by rw [List.length_eraseIdx_of_lt hi1L]; omega)]
        unfold nextL
        rw [e2, e1, List.reverse_reverse]
        have hlt : L[i] < L[i + 1] := s2 _ (by rw [hdr]; exact .head _)
        have hfi : (L.eraseIdx i).findIdx? (fun y => decide (L[i] < y)) = some i := by
          rw [her, hdr, List.findIdx?_append, List.findIdx?_eq_none_iff.2 (by simpa using hlow), List.findIdx?_cons]
          simp [hlt, hti]
        rw [hfi]
        show some _ = some _
        have h1 : (L.eraseIdx i).getD i 0 = L.getD (i + 1) 0 := by
          rw [List.getD_eq_getElem?_getD, List.getD_eq_getElem?_getD, List.getElem?_eraseIdx, if_neg (by omega)]
        have h2 : (L.eraseIdx i).set i L[i] = L.eraseIdx (i + 1) := by
          have e3 : L.eraseIdx (i + 1) = L.take (i + 1) ++ L.drop (i + 2) := List.eraseIdx_eq_take_drop_succ _ _
          rw [her, hdr, e3, List.take_succ_eq_append_getElem hiL, List.set_append_right _ _ (by omega), hti, Nat.sub_self, List.append_assoc]
          rfl
        rw [h1, h2]
      · rw [hk1] at hc
        have hif : i = f := by have := Nat.eq_of_mul_eq_mul_right hp hc; omega
        subst hif
        have hdn : L.drop (i + 1) = [] := List.drop_eq_nil_of_le (by omega)
        rw [hdn, List.append_nil] at her
        refine ⟨?_, ?_⟩
        · rw [e1, her]
          conv => rhs; rw [hsplit, hdn, List.reverse_append]
          rfl
        · unfold nextL
          rw [e2, e1, List.reverse_reverse, her, List.findIdx?_eq_none_iff.2 (by simpa using hlow)]
theorem next_cons {a : Int} {l : List Int} : nextL (a :: l) = match nextL l with
    | some l' => some (a :: l')
    | none => match l.reverse.findIdx? (fun y => decide (a < y)) with
      | some j => some (l.reverse.getD j 0 :: l.reverse.set j a)
      | none => none := rfl
theorem next_none : ∀ {l : List Int}, nextL l = none ↔ l.Pairwise fun x y => y ≤ x
  | [] => by simp [nextL]
  | a :: l => by
    have ih := next_none (l := l)
    rw [List.pairwise_cons, ← ih, next_cons]
    cases hn : nextL l with
    | some l' => simp
    | none =>
      cases hf : l.reverse.findIdx? (fun y => decide (a < y)) with
      | some j =>
        have hex : ∃ y ∈ l, a < y := by
          apply Classical.byContradiction
          intro hc
          have : l.reverse.findIdx? (fun y => decide (a < y)) = none := List.findIdx?_eq_none_iff.2 fun y hy => by
            simp
            exact Int.not_lt.1 fun h => hc ⟨y, by simpa using hy, h⟩
          rw [this] at hf; cases hf
        obtain ⟨y, hy, hj⟩ := hex
        constructor
        · intro h; cases h
        · rintro ⟨h, _⟩
          have := h y hy
          omega
      | none =>
        have := List.findIdx?_eq_none_iff.1 hf
        refine ⟨fun _ => ⟨fun y hy => ?_, rfl⟩, fun _ => rfl⟩
        have := this y (by simpa using hy)
        simp at this
        omega
theorem next_front : ∀ {P Z Z' : List Int}, nextL Z = some Z' → nextL (P ++ Z) = some (P ++ Z')
  | [], Z, Z', h => h
  | a :: P, Z, Z', h => by
    show (match nextL (P ++ Z) with
      | some l' => some (a :: l')
      | none => _) = _
    rw [next_front h]; rfl
theorem falls : ∀ {l : List Int}, (∀ i (h : i + 1 < l.length), l[i + 1] ≤ l[i]) → l.Pairwise fun x y => y ≤ x
  | [], _ => .nil
  | [a], _ => by simp
  | a :: b :: l, h => by
    have ih := falls (l := b :: l) fun i hi => h (i + 1) (by simpa using hi)
    have h0 : b ≤ a := h 0 (by simp)
    rw [List.pairwise_cons]
    refine ⟨fun y hy => ?_, ih⟩
    rcases List.mem_cons.1 hy with rfl | hy
    · exact h0
    · have := (List.pairwise_cons.1 ih).1 y hy
      omega
end Go.Abs

set_option maxRecDepth 100000
namespace Go.Abs
def At0 (cs : List Value) (o : Nat) (L : List Int) : Prop := ∀ i (h : i < L.length), cs[o + i]? = some (.int .i64 L[i])
def revK (L : List Int) (k : Nat) : List Int := (List.range L.length).map fun i => if i < k ∨ L.length ≤ i + k then L.getD (L.length - 1 - i) 0 else L.getD i 0
theorem revK_len {L : List Int} {k : Nat} : (revK L k).length = L.length := by simp [revK]
theorem revK_zero {L : List Int} : revK L 0 = L := by
  apply List.ext_getElem (by simp [revK])
  intro i h1 h2
  simp [revK, h2, show ¬ L.length ≤ i by omega]
theorem revK_all {L : List Int} {k : Nat} (h : L.length ≤ 2 * k + 1) : revK L k = L.reverse := by
  apply List.ext_getElem (by simp [revK])
  intro i h1 h2
  have hi : i < L.length := by simpa [revK] using h1
  rw [List.getElem_reverse]
  simp only [revK, List.getElem_map, List.getElem_range]
  by_cases hc : i < k ∨ L.length ≤ i + k
  · rw [if_pos hc, List.getD_eq_getElem?_getD, List.getElem?_eq_getElem (by omega)]; rfl
  · rw [if_neg hc, List.getD_eq_getElem?_getD, List.getElem?_eq_getElem hi]
    have : L.length - 1 - i = i := by omega
    simp [this]
end Go.Abs
namespace Go.Proofs.Ytlcddhgfkkjhkaa
open Go Go.Abs
def RvI (H : AH) (b o : Nat) (v : Value) (cs : List Value) (L : List Int) (k : Nat) (env : Env) (H' : AH) : Prop :=
  env 0 = some v ∧ env 2 = some (.int .i64 k) ∧ env 3 = some (.int .i64 ((L.length : Int) - 1 - k)) ∧ 2 * k ≤ L.length ∧ WF H' ∧ Keep [b] H H' ∧
    ∃ cs', H'.blk b = some (.row cs' T_int true) ∧ cs'.length = cs.length ∧ At0 cs' o (revK L k) ∧ ∀ i, i < o ∨ o + L.length ≤ i → cs'[i]? = cs[i]?
theorem Reverse_spec {H : AH} {b o c : Nat} {sp : Option Nat} {cs : List Value} {L : List Int} (hb : H.blk b = some (.row cs T_int true)) (ho : o + L.length ≤ cs.length) (hL : At0 cs o L) (hl : L.length ≤ 1000) :
    AFn Try.prog F_slices_Reverse_Lint_int [.slice (some ⟨b, o, sp⟩) L.length c] H fun u H' => WF H' ∧ Keep [b] H H' ∧ ∃ cs', H'.blk b = some (.row cs' T_int true) ∧ cs'.length = cs.length ∧ At0 cs' o L.reverse ∧ ∀ i, i < o ∨ o + L.length ≤ i → cs'[i]? = cs[i]? := by
  refine AFn.enter mixed ir_slices_Reverse_Lint_int_eq (by simp [ir_slices_Reverse_Lint_int]) fun hw => ?_
  simp (disch := omega) [-getElem?_pos, if_pos, if_neg, decide_eq_true, decide_eq_false, ir_slices_Reverse_Lint_int, IntWalk.i64_in]
  refine wpC_use (loop_upto L.length (RvI H b o (.slice (some ⟨b, o, sp⟩) L.length c) cs L) (Q := fun e env H' => e = .exit 0 ∧ WF H' ∧ Keep [b] H H' ∧ ∃ cs', H'.blk b = some (.row cs' T_int true) ∧ cs'.length = cs.length ∧ At0 cs' o L.reverse ∧ ∀ i, i < o ∨ o + L.length ≤ i → cs'[i]? = cs[i]?) ⟨by simp, by simp, by simp, by omega, hw, .refl, cs, hb, rfl, by rw [revK_zero]; exact hL, fun _ _ => rfl⟩ ?_) ?_
  · rintro k env H' hk ⟨e0, e2, e3, h2k, w', k', cs', hb', hlen, hat, hout⟩
    have hbn := w' b _ hb'
    by_cases hkn : (k : Int) < (L.length : Int) - 1 - k
    · obtain ⟨j, hj⟩ : ∃ j : Nat, j = L.length - 1 - k := ⟨_, rfl⟩
      have hjj : (L.length : Int) - 1 - k = j := by omega
      have hkj : k < j := by omega
      have hrl := revK_len (L := L) (k := k)
      have hge : ∀ i (h : i < L.length), (revK L k)[i]'(by omega) = if i < k ∨ L.length ≤ i + k then L.getD (L.length - 1 - i) 0 else L.getD i 0 := fun i h => by simp [revK]
      have hge1 : ∀ i (h : i < L.length), (revK L (k + 1))[i]'(by rw [revK_len]; exact h) = if i < k + 1 ∨ L.length ≤ i + (k + 1) then L.getD (L.length - 1 - i) 0 else L.getD i 0 := fun i h => by simp [revK]
      have x1 := hat k (by omega)
      have x2 := hat j (by omega)
      rw [hge k (by omega), if_neg (by omega)] at x1
      rw [hge j (by omega), if_neg (by omega)] at x2
      rw [hjj] at e3
      have hkl : k < L.length := by omega
      have hjl : j < L.length := by omega
      generalize hx : L.getD k 0 = x at *
      generalize hy : L.getD j 0 = y at *
      have cb := AH.cells_of hb'
      have wr1 := writeA_of (off := o + k) (news := [Value.int .i64 y]) hb' (by simp; omega)
      have hl1 : (over cs' (o + k) [Value.int .i64 y]).length = cs'.length := over_length (by simp; omega)
      have wr2 := writeA_of (H := H'.set b (.row (over cs' (o + k) [Value.int .i64 y]) T_int true)) (off := o + j) (news := [Value.int .i64 x]) AH.set_blk_same (by simp [hl1]; omega)
      generalize hcc : over (over cs' (o + k) [Value.int .i64 y]) (o + j) [Value.int .i64 x] = cs2 at *
      have hl2 : cs2.length = cs.length := by rw [← hcc, over_length (by simp [hl1]; omega), hl1, hlen]
      have hg2 : ∀ i, cs2[i]? = if i = o + j then some (.int .i64 x) else if i = o + k then some (.int .i64 y) else cs'[i]? := fun i => by
        rw [← hcc, over_get' (by simp [hl1]; omega), over_get' (by simp; omega)]
        simp only [List.length_cons, List.length_nil]
        by_cases h1 : i = o + j
        · subst h1; simp
        · rw [if_neg (by omega), if_neg h1]
          by_cases h2 : i = o + k
          · subst h2; simp
          · rw [if_neg (by omega), if_neg h2]
      simp (disch := omega) [-getElem?_pos, if_pos, if_neg, decide_eq_true, decide_eq_false, ir_slices_Reverse_Lint_int_l0, e0, e2, e3, hkj, hkl, hjl, cb, x1, x2, wr1, wr2, IntWalk.i64_in]
      refine ⟨by simp [e0], by simp, by simp; omega, by omega, w'.set hbn, k'.trans' ⟨Nat.le_refl _, fun a _ ha => AH.set_blk_ne (by simpa using ha)⟩, cs2, AH.set_blk_same, hl2, fun i hi => ?_, fun i hi => ?_⟩
      · rw [revK_len] at hi
        rw [hge1 i hi, hg2]
        by_cases h1 : i = j
        · subst h1
          rw [if_pos rfl, if_pos (by omega), show L.length - 1 - i = k by omega, hx]
        · by_cases h2 : i = k
          · subst h2
            rw [if_neg (by omega), if_pos rfl, if_pos (by omega), show L.length - 1 - i = j by omega, hy]
          · rw [if_neg (by omega), if_neg (by omega), hat i (by omega), hge i hi]
            by_cases h3 : i < k ∨ L.length ≤ i + k
            · rw [if_pos h3, if_pos (by omega)]
            · rw [if_neg h3, if_neg (by omega)]
      · rw [hg2, if_neg (by omega), if_neg (by omega)]; exact hout i hi
    · simp (disch := omega) [-getElem?_pos, if_pos, if_neg, decide_eq_true, decide_eq_false, ir_slices_Reverse_Lint_int_l0, e0, e2, e3, hkn]
      rw [revK_all (by omega)] at hat
      exact ⟨w', k', cs', hb', hlen, hat, hout⟩
  · rintro e env2 H' ⟨rfl, w', k', cs', h1, h2, h3, h4⟩ hu
    simp (disch := omega) [-getElem?_pos, if_pos, if_neg, decide_eq_true, decide_eq_false, ]
    exact ⟨w', k', cs', h1, h2, h3, h4⟩
end Go.Proofs.Ytlcddhgfkkjhkaa

set_option maxRecDepth 100000
namespace Go.Abs
open Go
def iC (X : List Int) : List Value := X.map (.int .i64)
theorem iC_len {X : List Int} : (iC X).length = X.length := by simp [iC]
theorem iC_get {X : List Int} {i : Nat} (h : i < X.length) : (iC X)[i]? = some (.int .i64 (X.getD i 0)) := by
  simp [iC, h]
theorem iC_of {cs : List Value} {X : List Int} (hl : cs.length = X.length) (h : ∀ i, i < X.length → cs[i]? = some (.int .i64 (X.getD i 0))) : cs = iC X := by
  apply List.ext_getElem?
  intro i
  by_cases hi : i < X.length
  · rw [h i hi, iC_get hi]
  · rw [List.getElem?_eq_none (by omega), List.getElem?_eq_none (by rw [iC_len]; omega)]
theorem iC_set {X : List Int} {i : Nat} {a : Int} (h : i < X.length) : over (iC X) i [.int .i64 a] = iC (X.set i a) := by
  rw [over_one (by rw [iC_len]; exact h)]
  simp [iC, List.map_set]
def FallsFrom (X : List Int) (m : Nat) : Prop := ∀ j, m ≤ j → j + 1 < X.length → X.getD (j + 1) 0 ≤ X.getD j 0
theorem FallsFrom.none {X : List Int} {m : Nat} (h : FallsFrom X m) : nextL (X.drop m) = none := by
  refine next_none.2 (falls fun i hi => ?_)
  have := h (m + i) (by omega) (by simp at hi; omega)
  simp at hi
  rw [List.getElem_drop, List.getElem_drop]
  rw [List.getD_eq_getElem?_getD, List.getD_eq_getElem?_getD, List.getElem?_eq_getElem (by omega), List.getElem?_eq_getElem (by omega)] at this
  exact this
theorem next_step {X : List Int} {f m k : Nat} (hf : f ≤ m) (hk : k < X.length) (hmk : m < k) (hfall : FallsFrom X (m + 1)) (hgt : X.getD m 0 < X.getD k 0) (hle : ∀ j, k < j → j < X.length → X.getD j 0 ≤ X.getD m 0) :
    nextL (X.drop f) = some ((X.drop f).take (m - f) ++ X.getD k 0 :: ((X.drop (m + 1)).set (k - (m + 1)) (X.getD m 0)).reverse) := by
  have hm : m < X.length := by omega
  have hsp : X.drop f = (X.drop f).take (m - f) ++ X.drop m := by
    conv => lhs; rw [← List.take_append_drop (m - f) (X.drop f)]
    rw [List.drop_drop, show f + (m - f) = m by omega]
  have hdm : X.drop m = X.getD m 0 :: X.drop (m + 1) := by
    rw [List.getD_eq_getElem?_getD, List.getElem?_eq_getElem hm]
    exact (List.getElem_cons_drop hm).symm
  conv => lhs; rw [hsp]
  refine next_front ?_
  rw [hdm, next_cons, hfall.none]
  generalize hL : X.drop (m + 1) = L
  have hLl : L.length = X.length - (m + 1) := by rw [← hL, List.length_drop]
  have hLg : ∀ i, i < L.length → L.getD i 0 = X.getD (m + 1 + i) 0 := fun i hi => by
    rw [← hL, List.getD_eq_getElem?_getD, List.getD_eq_getElem?_getD, List.getElem?_drop]
  have hrev : ∀ i, i < L.length → L.reverse.getD i 0 = L.getD (L.length - 1 - i) 0 := fun i hi => by
    rw [List.getD_eq_getElem?_getD, List.getD_eq_getElem?_getD, List.getElem?_reverse hi]
  have hkl : k - (m + 1) < L.length := by omega
  have hfi : L.reverse.findIdx? (fun y => decide (X.getD m 0 < y)) = some (L.length - 1 - (k - (m + 1))) := by
    rw [List.findIdx?_eq_some_iff_getElem]
    refine ⟨by rw [List.length_reverse]; omega, ?_, fun j hj => ?_⟩
    · rw [List.getElem_reverse]
      have h1 : L[L.length - 1 - (L.length - 1 - (k - (m + 1)))]'(by omega) = L.getD (k - (m + 1)) 0 := by
        rw [List.getD_eq_getElem?_getD, List.getElem?_eq_getElem hkl]
        have : L.length - 1 - (L.length - 1 - (k - (m + 1))) = k - (m + 1) := by omega
        simp [this]
      rw [h1, hLg _ hkl, show m + 1 + (k - (m + 1)) = k by omega]
      simpa using hgt
    · rw [List.getElem_reverse]
      have h1 : L[L.length - 1 - j]'(by omega) = L.getD (L.length - 1 - j) 0 := by
        rw [List.getD_eq_getElem?_getD, List.getElem?_eq_getElem (by omega)]; rfl
      rw [h1, hLg _ (by omega)]
      have := hle (m + 1 + (L.length - 1 - j)) (by omega) (by omega)
      simp only [decide_eq_true_eq]; omega
  rw [hfi]
  show some _ = some _
  congr 1
  rw [hrev _ (by omega), show L.length - 1 - (L.length - 1 - (k - (m + 1))) = k - (m + 1) by omega, hLg _ hkl, show m + 1 + (k - (m + 1)) = k by omega]
  congr 1
  apply List.ext_getElem (by simp)
  intro i h1 h2
  simp only [List.length_set, List.length_reverse] at h1 h2
  simp only [List.getElem_set, List.getElem_reverse, List.length_set]
  by_cases hi : L.length - 1 - (k - (m + 1)) = i
  · rw [if_pos hi, if_pos (by omega)]
  · rw [if_neg hi, if_neg (by omega)]
end Go.Abs
namespace Go.Proofs.Ytlcddhgfkkjhkaa
open Go Go.Abs
def Nx1I (H : AH) (b : Nat) (X : List Int) (f : Nat) (k : Nat) (env : Env) (H' : AH) : Prop :=
  H' = H ∧ env 0 = some (.slice (some ⟨b, 0, none⟩) X.length X.length) ∧ env 1 = some (.int .i64 f) ∧ env 5 = some (.int .i64 ((X.length : Int) - 2 - k)) ∧ FallsFrom X (X.length - 1 - k)
def Nx1Q (H : AH) (X : List Int) (f : Nat) (e : AExit) (env : Env) (H' : AH) : Prop :=
  H' = H ∧ e = .exit 0 ∧ ((∃ i : Int, env 5 = some (.int .i64 i) ∧ i < f ∧ FallsFrom X f) ∨ ∃ m : Nat, env 5 = some (.int .i64 m) ∧ f ≤ m ∧ m + 1 < X.length ∧ X.getD m 0 < X.getD (m + 1) 0 ∧ FallsFrom X (m + 1))
theorem next_l1 {H : AH} {b : Nat} {X : List Int} {f : Nat} (hb : H.cells b = some (iC X)) (hX : X.length ≤ 1000) (hf : f ≤ 1000) {env : Env} (h : Nx1I H b X f 0 env H) : wpC Try.prog 63 (.loop ir_brute_next_l1) (Nx1Q H X f) env H := by
  refine loop_upto X.length (Nx1I H b X f) (Q := Nx1Q H X f) h ?_
  rintro k env H' hk ⟨rfl, e0, e1, e5, hF⟩
  by_cases hi : (f : Int) ≤ (X.length : Int) - 2 - k
  · obtain ⟨m, hm⟩ : ∃ m : Nat, (X.length : Int) - 2 - k = m := ⟨X.length - 2 - k, by omega⟩
    rw [hm] at e5
    have hml : m < X.length := by omega
    have hml1 : m + 1 < X.length := by omega
    have hfm : (f : Int) ≤ (m : Int) := by omega
    have g1 := iC_get hml
    have g2 := iC_get hml1
    have hF' : FallsFrom X (m + 1) := by rw [show m + 1 = X.length - 1 - k by omega]; exact hF
    generalize hx : X.getD m 0 = x at *
    generalize hy : X.getD (m + 1) 0 = y at *
    generalize hcs : iC X = cs at *
    by_cases hxy : y ≤ x
    · simp (disch := omega) [-getElem?_pos, if_pos, if_neg, decide_eq_true, decide_eq_false, ir_brute_next_l1, e0, e1, e5, hfm, hml, hml1, hb, g1, g2, hxy, IntWalk.i64_in]
      refine ⟨by omega, rfl, by simp [e0], by simp [e1], by simp; omega, fun j hj hj2 => ?_⟩
      by_cases hjm : j = m
      · subst hjm; rw [hx, hy]; exact hxy
      · exact hF' j (by omega) hj2
    · simp (disch := omega) [-getElem?_pos, if_pos, if_neg, decide_eq_true, decide_eq_false, ir_brute_next_l1, e0, e1, e5, hfm, hml, hml1, hb, g1, g2, hxy, IntWalk.i64_in]
      exact ⟨rfl, rfl, .inr ⟨m, by simp [e5], by omega, hml1, by rw [hx, hy]; omega, hF'⟩⟩
  · have hi' : ((f : Int) ≤ (X.length : Int) - 2 - k) = False := eq_false hi
    generalize hii : (X.length : Int) - 2 - k = i at *
    simp (disch := omega) [-getElem?_pos, if_pos, if_neg, decide_eq_true, decide_eq_false, ir_brute_next_l1, e0, e1, e5, hi', IntWalk.i64_in]
    refine ⟨rfl, rfl, .inl ⟨i, by simp [e5], by omega, fun j hj hj2 => hF j (by omega) hj2⟩⟩
def Nx0I (H : AH) (b : Nat) (X : List Int) (m : Nat) (k : Nat) (env : Env) (H' : AH) : Prop :=
  H' = H ∧ env 0 = some (.slice (some ⟨b, 0, none⟩) X.length X.length) ∧ env 5 = some (.int .i64 m) ∧ env 6 = some (.int .i64 ((X.length : Int) - 1 - k)) ∧ ∀ j, X.length - 1 - k < j → j < X.length → X.getD j 0 ≤ X.getD m 0
def Nx0Q (H : AH) (X : List Int) (m : Nat) (e : AExit) (env : Env) (H' : AH) : Prop :=
  H' = H ∧ e = .exit 2 ∧ ∃ k : Nat, env 6 = some (.int .i64 k) ∧ m < k ∧ k < X.length ∧ X.getD m 0 < X.getD k 0 ∧ ∀ j, k < j → j < X.length → X.getD j 0 ≤ X.getD m 0
theorem next_l0 {H : AH} {b : Nat} {X : List Int} {m : Nat} (hb : H.cells b = some (iC X)) (hX : X.length ≤ 1000) (hm : m + 1 < X.length) (hgt : X.getD m 0 < X.getD (m + 1) 0) {env : Env} (h : Nx0I H b X m 0 env H) : wpC Try.prog 63 (.loop ir_brute_next_l0) (Nx0Q H X m) env H := by
  refine loop_upto (X.length - 1 - m) (Nx0I H b X m) (Q := Nx0Q H X m) h ?_
  rintro k env H' hk ⟨rfl, e0, e5, e6, hF⟩
  obtain ⟨j, hj⟩ : ∃ j : Nat, (X.length : Int) - 1 - k = j := ⟨X.length - 1 - k, by omega⟩
  rw [hj] at e6
  have hjl : j < X.length := by omega
  have hml : m < X.length := by omega
  have g1 := iC_get hjl
  have g2 := iC_get hml
  have hjm : j = X.length - 1 - k := by omega
  rw [← hjm] at hF
  have hne : X.getD j 0 ≤ X.getD m 0 → m + 1 < j ∨ j = m := fun h => by
    by_cases h1 : j = m + 1
    · subst h1; omega
    · omega
  generalize hx : X.getD m 0 = x at *
  generalize hy : X.getD j 0 = y at *
  generalize hcs : iC X = cs at *
  by_cases hxy : y ≤ x
  · by_cases hkk : k < X.length - 1 - m
    · simp (disch := omega) [-getElem?_pos, if_pos, if_neg, decide_eq_true, decide_eq_false, ir_brute_next_l0, e0, e5, e6, hjl, hml, hb, g1, g2, hxy, IntWalk.i64_in]
      refine ⟨hkk, rfl, by simp [e0], by simp [e5], by simp; omega, fun i hi hi2 => ?_⟩
      by_cases hij : i = j
      · subst hij; rw [hx, hy]; exact hxy
      · rw [hx]; exact hF i (by omega) hi2
    · have : j = m := by omega
      have h1 := hF (m + 1) (by omega) hm
      omega
  · simp (disch := omega) [-getElem?_pos, if_pos, if_neg, decide_eq_true, decide_eq_false, ir_brute_next_l0, e0, e5, e6, hjl, hml, hb, g1, g2, hxy, IntWalk.i64_in]
    refine ⟨rfl, rfl, j, by simp [e6], ?_, hjl, by rw [hx, hy]; omega, fun i h1 h2 => by rw [hx]; exact hF i h1 h2⟩
    have : j ≠ m := fun h => by subst h; omega
    omega
def NextP (H : AH) (b : Nat) (X : List Int) (f : Nat) (u : Value) (H' : AH) : Prop :=
  match nextL (X.drop f) with
  | some Z => u = .bool true ∧ WF H' ∧ Keep [b] H H' ∧ H'.blk b = some (.row (iC (X.take f ++ Z)) T_int true)
  | none => u = .bool false ∧ H' = H
theorem next_spec {H : AH} {b : Nat} {X : List Int} {f : Nat} (hb : H.blk b = some (.row (iC X) T_int true)) (hX : X.length ≤ 1000) (hf : f ≤ X.length) : AFn Try.prog F_brute_next [.slice (some ⟨b, 0, none⟩) X.length X.length, .int .i64 f] H (NextP H b X f) := by
  refine AFn.enter mixed ir_brute_next_eq (by simp [ir_brute_next]) fun hw => ?_
  have cb := AH.cells_of hb
  simp (disch := omega) [-getElem?_pos, if_pos, if_neg, decide_eq_true, decide_eq_false, ir_brute_next, IntWalk.i64_in]
  refine wpC_use (next_l1 (b := b) (X := X) (f := f) cb hX (by omega) ⟨rfl, by simp, by simp, by simp, fun j h1 h2 => by omega⟩) ?_
  rintro e env1 H' ⟨rfl, rfl, hq⟩ hu
  have u0 := hu 0 (by decide)
  have u1 := hu 1 (by decide)
  rcases hq with ⟨i, e5, hi, hF⟩ | ⟨m, e5, hfm, hm1, hgt, hF⟩
  · have hn := hF.none
    simp (disch := omega) [-getElem?_pos, if_pos, if_neg, decide_eq_true, decide_eq_false, e5, u0, u1, hi]
    unfold NextP
    rw [hn]
    exact ⟨rfl, rfl⟩
  · have hmf : ¬ (m : Int) < (f : Int) := by omega
    simp (disch := omega) [-getElem?_pos, if_pos, if_neg, decide_eq_true, decide_eq_false, e5, u0, u1, hmf, IntWalk.i64_in]
    refine wpC_use (next_l0 (b := b) (X := X) (m := m) cb hX hm1 hgt ⟨rfl, by simp [u0], by simp [e5], by simp, fun j h1 h2 => by omega⟩) ?_
    rintro e env2 H2 ⟨rfl, rfl, k, e6, hmk, hk, hgk, hle⟩ hu2
    have v0 := hu2 0 (by decide)
    have v5 := hu2 5 (by decide)
    simp only [upd_apply] at v0 v5
    have hml : m < X.length := by omega
    have hst := next_step hfm hk hmk hF hgk hle
    have g1 := iC_get hk
    have g2 := iC_get hml
    have w1 := writeA_of (off := m) (news := [Value.int .i64 (X.getD k 0)]) hb (by rw [iC_len]; simp; omega)
    rw [iC_set hml] at w1
    have hkl1 : k < (X.set m (X.getD k 0)).length := by rw [List.length_set]; exact hk
    have w2 := writeA_of (H := H2.set b (.row (iC (X.set m (X.getD k 0))) T_int true)) (off := k) (news := [Value.int .i64 (X.getD m 0)]) AH.set_blk_same (by rw [iC_len]; simp; omega)
    rw [iC_set hkl1, AH.set_set] at w2
    generalize hY : (X.set m (X.getD k 0)).set k (X.getD m 0) = Y at *
    have hYl : Y.length = X.length := by rw [← hY]; simp
    have hYd : Y.drop (m + 1) = (X.drop (m + 1)).set (k - (m + 1)) (X.getD m 0) := by
      rw [← hY, List.drop_set, if_neg (by omega), List.drop_set, if_pos (by omega)]
    have hYt : Y.take m = X.take m := by
      rw [← hY, List.take_set, List.take_set, List.set_eq_of_length_le (by rw [List.length_set, List.length_take]; omega), List.set_eq_of_length_le (by rw [List.length_take]; omega)]
    have hYm : Y.getD m 0 = X.getD k 0 := by
      rw [← hY, List.getD_eq_getElem?_getD, List.getElem?_set_ne (by omega), List.getElem?_set_self hml]; rfl
    have hRl : (Y.drop (m + 1)).length = X.length - (m + 1) := by rw [List.length_drop, hYl]
    have hAt : At0 (iC Y) (m + 1) (Y.drop (m + 1)) := fun i hi => by
      rw [hRl] at hi
      rw [iC_get (by omega), List.getElem_drop, List.getD_eq_getElem?_getD, List.getElem?_eq_getElem (by omega)]; rfl
    have hcm : ¬ X.length = m + 1 := by omega
    have hr := Reverse_spec (H := H2.set b (.row (iC Y) T_int true)) (b := b) (o := m + 1) (c := X.length - (m + 1)) (sp := none) (cs := iC Y) (L := Y.drop (m + 1)) AH.set_blk_same (by rw [hRl, iC_len, hYl]; omega) hAt (by rw [hRl]; omega)
    rw [hRl] at hr
    generalize hxx : X.getD k 0 = x at *
    generalize hyy : X.getD m 0 = y at *
    generalize hcs : iC X = cs at *
    simp (disch := omega) [-getElem?_pos, if_pos, if_neg, decide_eq_true, decide_eq_false, e6, v0, v5, e5, hk, hml, cb, g1, g2, w1, w2, hcm, u0, ↓ieval_sllo, slB, IntWalk.i64_in]
    refine hr.mono' fun u H3 w3 ⟨_, k3, cs3, b3, l3, a3, o3⟩ => ?_
    simp (disch := omega) [-getElem?_pos, if_pos, if_neg, decide_eq_true, decide_eq_false, ]
    unfold NextP
    rw [hst]
    refine ⟨rfl, w3, ?_, ?_⟩
    · exact Keep.trans' (.set (by simp)) k3
    · rw [b3]
      congr 2
      have hlen : (X.take f ++ ((X.drop f).take (m - f) ++ x :: ((X.drop (m + 1)).set (k - (m + 1)) y).reverse)).length = X.length := by
        simp only [List.length_append, List.length_take, List.length_drop, List.length_cons, List.length_reverse, List.length_set]; omega
      have heq : X.take f ++ ((X.drop f).take (m - f) ++ x :: ((X.drop (m + 1)).set (k - (m + 1)) y).reverse) = Y.take (m + 1) ++ (Y.drop (m + 1)).reverse := by
        rw [hYd, ← List.append_assoc, ← List.take_add, show f + (m - f) = m by omega, List.take_succ_eq_append_getElem (show m < Y.length by omega), hYt]
        have hYx : Y[m]'(by omega) = x := by
          have h := hYm
          rw [List.getD_eq_getElem?_getD, List.getElem?_eq_getElem (by omega)] at h
          exact h
        rw [hYx, List.append_assoc]; rfl
      rw [heq]
      refine iC_of (by rw [l3, iC_len, List.length_append, List.length_take, List.length_reverse, hRl]; omega) fun i hi => ?_
      rw [List.length_append, List.length_take, List.length_reverse, hRl] at hi
      by_cases him : i < m + 1
      · rw [o3 i (.inl him), iC_get (by omega), List.getD_eq_getElem?_getD, List.getD_eq_getElem?_getD, List.getElem?_append_left (by rw [List.length_take]; omega), List.getElem?_take_of_lt him]
      · have h1 := a3 (i - (m + 1)) (by rw [List.length_reverse, hRl]; omega)
        rw [show m + 1 + (i - (m + 1)) = i by omega] at h1
        rw [h1, List.getD_eq_getElem?_getD, List.getElem?_append_right (by rw [List.length_take]; omega), List.length_take, Nat.min_eq_left (by omega), List.getElem?_eq_getElem (by rw [List.length_reverse, hRl]; omega)]
        rfl
end Go.Proofs.Ytlcddhgfkkjhkaa
