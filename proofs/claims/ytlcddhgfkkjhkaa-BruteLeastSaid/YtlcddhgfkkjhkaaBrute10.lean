/-
  package brute: all answers, one by one: orders, All.
-/
import Derived.Test.YtlcddhgfkkjhkaaNext
import Derived.Test.YtlcddhgfkkjhkaaBrute
import Derived.Test.YtlcddhgfkkjhkaaRef13
import Derived.Test.YtlcddhgfkkjhkaaBrute9
set_option maxRecDepth 100000
set_option linter.unusedSimpArgs false
set_option linter.unusedVariables false
namespace Go.Proofs.Ytlcddhgfkkjhkaa
open Go Go.Abs
theorem CloneI_spec {p : Nat → Prop} {H : AH} {v : Value} {L : List Int} (h : SlV p H v L) (hl : L.length ≤ 100000) : AFn Try.prog F_slices_Clone_Lint_int [v] H fun u H' => NewL H u L H' := by
  refine AFn.enter mixed ir_slices_Clone_Lint_int_eq (by simp [ir_slices_Clone_Lint_int]) fun hw => ?_
  by_cases hv : ∃ c, v = .slice none L.length c
  · obtain ⟨c, rfl⟩ := hv
    have h0 : L = [] := by
      apply Classical.byContradiction
      intro hne
      obtain ⟨b, off, sp, cap, cs, hcv, _⟩ := ints_rd h (List.length_pos_iff.2 hne)
      cases hcv
    subst h0
    have hc : c = 0 := by
      obtain ⟨_, cells, ⟨_, h2⟩, _⟩ := h
      rcases h2 with ⟨_, a, c2, e, hac⟩ | ⟨b, off, sp, cap, cs, e, _⟩
      · cases e; exact hac rfl
      · cases e
    subst hc
    simp (disch := omega) [-getElem?_pos, if_pos, if_neg, decide_eq_true, decide_eq_false, ir_slices_Clone_Lint_int]
    exact ⟨[], .nil, .refl, by simp⟩
  · obtain ⟨a, c, rfl⟩ := h.slice
    cases a with
    | none => exact absurd ⟨c, rfl⟩ hv
    | some a =>
      have h1 := h.kept hw (.alloc (B := .row [] T_int true))
      have ho : OwnL (fun _ => False) (H.alloc (.row [] T_int true)) T_int (.slice (some ⟨H.next, 0, none⟩) 0 0) ([] : List Int) [H.next] := ⟨[], .inr ⟨H.next, 0, none, 0, [], rfl, rfl, by simp, by simp, by simp, by simp, .inl rfl⟩, fun i hi => by simp at hi, by simp⟩
      obtain ⟨cells, hc, hv2⟩ : ∃ cells, Vw (fun _ => True) (H.alloc (.row [] T_int true)) 1 (.slice (some a) L.length c) L.length cells ∧ ∀ i (hi : i < L.length), Ren.R (fun _ => False) (H.alloc (.row [] T_int true)) (chunk 1 i cells) L[i] := by
        obtain ⟨_, cells, q1, q2⟩ := h1
        exact ⟨cells, q1.sub (fun _ _ => trivial) .refl, q2⟩
      obtain ⟨cc, o1, o2, o3⟩ := ho
      obtain ⟨v', H', S', q1, q2, q3, q4, q5, q6⟩ := o1.append hw.alloc (bytes := 8) (m := L.length) (news := cells) (by rw [hc.1]; rfl) (by simp; omega) (by simp; omega)
      obtain ⟨a', c', rfl⟩ := q2.slice
      have he := hc.elems
      have hcc : cc = [] := by have := o1.len; simpa using this
      subst hcc
      simp only [List.length_nil, Nat.zero_add, List.nil_append, sz_int] at q1 q2
      simp (disch := omega) [-getElem?_pos, if_pos, if_neg, decide_eq_true, decide_eq_false, ir_slices_Clone_Lint_int, he, q1]
      refine ⟨S', ⟨cells, q2, hv2, by simp⟩, ⟨by have := q4.next; simp at this; omega, fun b hb _ => by rw [q4.blk b (by simp; omega) (by simp; omega), AH.alloc_blk_ne (by omega)]⟩, fun b hb => ?_⟩
      rcases q6 b hb with h | h
      · simp at h; omega
      · simp at h; omega
structure Yld (l n0 C : Nat) (at' : Nat → List Int) (O : List Nat) (Inv : Nat → AH → Prop) (Fin : AH → Prop) : Prop where
  keep : ∀ k H H', Inv k H → WF H → n0 ≤ H.next → Keep O H H' → Inv k H'
  fin : ∀ H H', Fin H → WF H → n0 ≤ H.next → Keep O H H' → Fin H'
  step : ∀ k H v, k < C → Inv k H → WF H → n0 ≤ H.next → SlV (fun b => n0 ≤ b ∧ b < H.next ∧ b ∉ O) H v (at' k) →
    AYield Try.prog l [v] H fun r H' => H.next ≤ H'.next ∧ (∀ b ∈ O, H'.blk b = H.blk b) ∧ ((r = .bool true ∧ Inv (k + 1) H') ∨ (r = .bool false ∧ Fin H'))
def ordAt (n f : Nat) (k : Nat) : List Int := restL 0 f ++ orderL (n - f) (restL f n) k
def Or1I (H : AH) (n : Nat) (k : Nat) (env : Env) (H' : AH) : Prop :=
  env 6 = some (.slice (some ⟨H.next, 0, none⟩) n n) ∧ env 11 = some (.int .i64 n) ∧ env 12 = some (.int .i64 k) ∧ WF H' ∧ H'.next = H.next + 1 ∧ Keep [] H H' ∧ H'.blk H.next = some (.row (iC (restL 0 k ++ List.replicate (n - k) 0)) T_int true)
def Or1Q (H : AH) (n : Nat) (e : AExit) (env : Env) (H' : AH) : Prop :=
  e = .exit 0 ∧ WF H' ∧ H'.next = H.next + 1 ∧ Keep [] H H' ∧ H'.blk H.next = some (.row (iC (restL 0 n)) T_int true)
theorem restL_succ {k : Nat} : restL 0 (k + 1) = restL 0 k ++ [(k : Int)] := by
  unfold restL
  simp [List.range_succ]
theorem orders_l1 {H H1 : AH} {n : Nat} (hn : n ≤ 1000) {env : Env} (h : Or1I H n 0 env H1) : wpC Try.prog 29 (.loop ir_brute_orders_l1) (Or1Q H n) env H1 := by
  refine loop_upto n (Or1I H n) (Q := Or1Q H n) h ?_
  rintro k env H' hk ⟨e6, e11, e12, w', n', k', hb⟩
  by_cases hkn : k < n
  · have hl : (restL 0 k ++ List.replicate (n - k) (0 : Int)).length = n := by rw [List.length_append, restL_len, List.length_replicate]; omega
    have hst : (restL 0 k ++ List.replicate (n - k) (0 : Int)).set k (k : Int) = restL 0 (k + 1) ++ List.replicate (n - (k + 1)) 0 := by
      rw [List.set_append_right _ _ (by rw [restL_len]; omega), restL_len, restL_succ, List.append_assoc, show k - (k - 0) = 0 by omega, show n - k = (n - (k + 1)) + 1 by omega, List.replicate_succ]
      rfl
    generalize restL 0 k ++ List.replicate (n - k) (0 : Int) = X at *
    have w1 := writeA_of (off := k) (news := [Value.int .i64 k]) hb (by rw [iC_len]; simp; omega)
    rw [iC_set (by omega), hst] at w1
    simp (disch := omega) [-getElem?_pos, if_pos, if_neg, decide_eq_true, decide_eq_false, ir_brute_orders_l1, e6, e11, e12, w1, IntWalk.i64_in]
    refine ⟨hkn, by simp [e6], by simp [e11], by simp, w'.set (by omega), by simp [n'], .new_set (by omega) k', AH.set_blk_same⟩
  · obtain rfl : k = n := by omega
    rw [Nat.sub_self, List.replicate_zero, List.append_nil] at hb
    simp (disch := omega) [-getElem?_pos, if_pos, if_neg, decide_eq_true, decide_eq_false, ir_brute_orders_l1, e11, e12]
    exact ⟨rfl, w', n', k', hb⟩
theorem restL_get {a n i : Nat} (h : i < n - a) : (restL a n)[i]'(by rw [restL_len]; exact h) = ((a + i : Nat) : Int) := by simp [restL]
theorem ordAt_first {n f : Nat} (hf : f ≤ n) : ordAt n f 0 = restL 0 n := by
  unfold ordAt
  rw [order_first (n - f) (by rw [restL_len])]
  apply List.ext_getElem (by simp [restL_len]; omega)
  intro i h1 h2
  rw [restL_len] at h2
  rw [restL_get h2, List.getElem_append]
  split
  · rename_i h; rw [restL_len] at h; rw [restL_get h]
  · rename_i h; rw [restL_len] at h
    simp only [restL_len]
    rw [restL_get (by omega)]; omega
theorem restL_sorted {a n : Nat} : (restL a n).Pairwise (· < ·) := by
  rw [List.pairwise_iff_getElem]
  intro i j hi hj hij
  rw [restL_len] at hi hj
  rw [restL_get hi, restL_get hj]; omega
theorem restL_mem {a n : Nat} {x : Int} (h : x ∈ restL a n) : 0 ≤ x ∧ x < n := by
  obtain ⟨i, hi, rfl⟩ := List.getElem_of_mem h
  rw [restL_len] at hi
  rw [restL_get hi]; omega
theorem order_mem : ∀ (f : Nat) {left : List Int} {k : Nat}, left.length = f → k < fac f → ∀ x ∈ orderL f left k, x ∈ left
  | 0, left, k, h, hk, x, hx => by simp [orderL] at hx
  | f + 1, [], k, h, hk, x, hx => by simp at h
  | f + 1, a :: l, k, h, hk, x, hx => by
    have hl : l.length = f := by simpa using h
    have hp := fac_pos f
    have hor : orderL (f + 1) (a :: l) k = (a :: l).getD (k / fac f) 0 :: orderL f ((a :: l).eraseIdx (k / fac f)) (k % fac f) := by rw [← hl]; rfl
    have hi : k / fac f < (a :: l).length := by rw [h, Nat.div_lt_iff_lt_mul hp]; exact hk
    rw [hor] at hx
    rcases List.mem_cons.1 hx with rfl | hx
    · rw [List.getD_eq_getElem?_getD, List.getElem?_eq_getElem hi]; exact List.getElem_mem _
    · exact List.mem_of_mem_eraseIdx (order_mem f (by rw [List.length_eraseIdx_of_lt hi, h]; rfl) (Nat.mod_lt _ hp) x hx)
theorem ordAt_mem {n f k : Nat} (hf : f ≤ n) (hk : k < fac (n - f)) {x : Int} (h : x ∈ ordAt n f k) : 0 ≤ x ∧ x < n := by
  unfold ordAt at h
  rcases List.mem_append.1 h with h | h
  · have := restL_mem h; omega
  · exact restL_mem (order_mem (n - f) restL_len hk x h)
theorem SlV.cells {H : AH} {q : Nat} {X : List Int} (h : H.cells q = some (iC X)) (hX : ∀ x ∈ X, I64 x) (hl : X.length ≤ 9223372036854775807) : SlV (fun b => b = q) H (.slice (some ⟨q, 0, none⟩) X.length X.length) X := by
  have hc : cut (iC X) 0 (X.length * 1) = some (iC X) := by rw [cut_eq (by rw [iC_len]; omega), List.drop_zero, List.take_of_length_le (by rw [iC_len]; omega)]
  refine ⟨⟨hl, .of (.inl rfl)⟩, iC X, ⟨by rw [iC_len]; simp, .inr ⟨q, 0, none, X.length, _, rfl, Nat.le_refl _, .inl rfl, h, hc, rfl⟩⟩, fun i hi => ⟨?_, hX _ (List.getElem_mem _)⟩⟩
  apply List.ext_getElem?
  intro j
  simp only [sz_int, chunk, Nat.mul_one]
  by_cases hj : j = 0
  · subst hj
    rw [List.getElem?_take_of_lt (by omega), List.getElem?_drop, Nat.add_zero, iC_get hi, List.getD_eq_getElem?_getD, List.getElem?_eq_getElem hi]; rfl
  · rw [List.getElem?_eq_none (by simp; omega), List.getElem?_eq_none (by simp; omega)]
def Or0I (l n0 q n f : Nat) (Inv : Nat → AH → Prop) (k : Nat) (env : Env) (H' : AH) : Prop :=
  env 1 = some (.int .i64 f) ∧ env 2 = some (.func (.yield l) #[] #[]) ∧ env 6 = some (.slice (some ⟨q, 0, none⟩) n n) ∧ WF H' ∧ q < H'.next ∧ H'.blk q = some (.row (iC (ordAt n f k)) T_int true) ∧ k < fac (n - f) ∧ Inv k H'
def Or0Q (C : Nat) (Inv : Nat → AH → Prop) (Fin : AH → Prop) (e : AExit) (env : Env) (H' : AH) : Prop := e = .exit 2 ∧ (Inv C H' ∨ Fin H')
theorem ordAt_len {n f k : Nat} (hf : f ≤ n) (hk : k < fac (n - f)) : (ordAt n f k).length = n := by
  unfold ordAt
  rw [List.length_append, restL_len, order_len (n - f) restL_len (by rw [restL_len]; exact hk)]; omega
theorem ordAt_next {n f k : Nat} (hf : f ≤ n) (hk : k < fac (n - f)) : nextL ((ordAt n f k).drop f) = if k + 1 < fac (n - f) then some ((ordAt n f (k + 1)).drop f) else none := by
  have h0 : ∀ k, (ordAt n f k).drop f = orderL (n - f) (restL f n) k := fun k => by
    unfold ordAt
    rw [List.drop_append, restL_len, List.drop_eq_nil_of_le (by rw [restL_len]; omega), show f - (f - 0) = 0 by omega]; rfl
  rw [h0, h0]
  obtain ⟨q1, q2⟩ := order_next (n - f) (left := restL f n) (k := k) restL_len restL_sorted hk
  by_cases h : k + 1 < fac (n - f)
  · rw [if_pos h, q1 h]
  · rw [if_neg h, (q2 (by omega)).2]
theorem ordAt_take {n f k : Nat} (hf : f ≤ n) : (ordAt n f k).take f = restL 0 f := by
  unfold ordAt
  rw [List.take_append_of_le_length (by rw [restL_len]; omega), List.take_of_length_le (by rw [restL_len]; omega)]
theorem orders_l0 {l n0 q n f : Nat} {Inv : Nat → AH → Prop} {Fin : AH → Prop} (hf : f ≤ n) (hn : n ≤ 1000) (hq : n0 ≤ q) (hY : Yld l n0 (fac (n - f)) (ordAt n f) [q] Inv Fin) {env : Env} {H : AH} (h : Or0I l n0 q n f Inv 0 env H) :
    wpC Try.prog 29 (.loop ir_brute_orders_l0) (Or0Q (fac (n - f)) Inv Fin) env H := by
  refine loop_upto (fac (n - f)) (Or0I l n0 q n f Inv) (Q := Or0Q (fac (n - f)) Inv Fin) h ?_
  rintro k env H' _ ⟨e1, e2, e6, w', hqn, hb, hk, hI⟩
  have hXl := ordAt_len hf hk
  have hXs : SlV (fun b => b < H'.next) H' (.slice (some ⟨q, 0, none⟩) n n) (ordAt n f k) := by
    have h1 := SlV.cells (AH.cells_of hb) (fun x hx => by have := ordAt_mem hf hk hx; unfold I64; omega) (by omega)
    rw [hXl] at h1
    exact h1.mono fun b hb => by subst hb; exact hqn
  simp (disch := omega) [-getElem?_pos, if_pos, if_neg, decide_eq_true, decide_eq_false, ir_brute_orders_l0, e1, e2, e6]
  refine (CloneI_spec hXs (by omega)).mono' fun u H2 w2 ⟨S, hA, k2, hS⟩ => ?_
  have n2 := k2.next
  have hI2 := hY.keep k H' H2 hI w' (by omega) (k2.mono (by simp))
  have hv : SlV (fun b => n0 ≤ b ∧ b < H2.next ∧ b ∉ [q]) H2 u (ordAt n f k) := hA.slv (fun _ h => h.elim) (fun b hb => ⟨by have := hS b hb; omega, hA.lt w2 b hb, by have := hS b hb; simp; omega⟩) (by omega)
  have hb2 : H2.blk q = some (.row (iC (ordAt n f k)) T_int true) := by rw [k2.blk q hqn (by simp)]; exact hb
  obtain ⟨ua, uc, rfl⟩ := hA.slice
  simp (disch := omega) [-getElem?_pos, if_pos, if_neg, decide_eq_true, decide_eq_false, ]
  refine ACall_yield_of ((hY.step k H2 _ hk hI2 w2 (by omega) hv).mono_wf (Q' := fun r H' => WF H' ∧ _) fun r H3 w3 h => ⟨w3, h⟩) fun r H3 ⟨w3, n3, o3, hr⟩ => ?_
  rcases hr with ⟨rfl, hI3⟩ | ⟨rfl, hF⟩
  · have hb3 : H3.blk q = some (.row (iC (ordAt n f k)) T_int true) := by rw [o3 q (by simp)]; exact hb2
    simp (disch := omega) [-getElem?_pos, if_pos, if_neg, decide_eq_true, decide_eq_false, e1, e6]
    have hx := next_spec (f := f) hb3 (by omega) (by omega)
    rw [hXl] at hx
    refine hx.mono' fun u H4 w4 hP => ?_
    unfold NextP at hP
    rw [ordAt_next hf hk] at hP
    by_cases hk1 : k + 1 < fac (n - f)
    · rw [if_pos hk1] at hP
      obtain ⟨rfl, _, k4, hb4⟩ := hP
      have n4 := k4.next
      simp (disch := omega) [-getElem?_pos, if_pos, if_neg, decide_eq_true, decide_eq_false, e1, e2, e6]
      refine ⟨hk, by simp [e1], by simp [e2], by simp [e6], w4, by omega, ?_, hk1, hY.keep _ _ _ hI3 w3 (by omega) k4⟩
      rw [hb4, ordAt_take hf, ← ordAt_take (k := k + 1) hf, List.take_append_drop]
    · rw [if_neg hk1] at hP
      obtain ⟨rfl, rfl⟩ := hP
      simp (disch := omega) [-getElem?_pos, if_pos, if_neg, decide_eq_true, decide_eq_false, ]
      exact ⟨rfl, .inl (by rw [show fac (n - f) = k + 1 by omega]; exact hI3)⟩
  · simp (disch := omega) [-getElem?_pos, if_pos, if_neg, decide_eq_true, decide_eq_false, ]
    exact ⟨rfl, .inr hF⟩
theorem orders_spec {H : AH} {l n0 n f : Nat} {Inv : Nat → AH → Prop} {Fin : AH → Prop} (hf : f ≤ n) (hn : n ≤ 1000) (hn0 : n0 ≤ H.next) (hY : Yld l n0 (fac (n - f)) (ordAt n f) [H.next] Inv Fin) (h : Inv 0 H) :
    AFn Try.prog F_brute_orders [.int .i64 n, .int .i64 f, .func (.yield l) #[] #[]] H fun _ H' => Inv (fac (n - f)) H' ∨ Fin H' := by
  refine AFn.enter mixed ir_brute_orders_eq (by simp [ir_brute_orders]) fun hw => ?_
  have hz : iC (restL 0 0 ++ List.replicate (n - 0) 0) = zeros [.int .i64 0] n := by
    have h0 : restL 0 0 = [] := rfl
    rw [h0, List.nil_append, Nat.sub_zero]
    clear hY h hn hf
    induction n with
    | zero => rfl
    | succ n ih => rw [List.replicate_succ, zeros, ← ih]; rfl
  simp (disch := omega) [-getElem?_pos, if_pos, if_neg, decide_eq_true, decide_eq_false, ir_brute_orders, IntWalk.i64_in]
  refine wpC_use (orders_l1 (H := H) (n := n) hn ⟨by simp, by simp, by simp, hw.alloc, by simp, .alloc, by rw [hz]; simp⟩) ?_
  rintro e env1 H1 ⟨rfl, w1, n1, k1, b1⟩ hu
  have u1 := hu 1 (by decide)
  have u2 := hu 2 (by decide)
  have u6 := hu 6 (by decide)
  simp only [upd_apply] at u1 u2 u6
  simp (disch := omega) [-getElem?_pos, if_pos, if_neg, decide_eq_true, decide_eq_false, ]
  refine wpC_use (orders_l0 (l := l) (n0 := n0) (q := H.next) hf hn hn0 hY ⟨by simp [u1], by simp [u2], by simp [u6], w1, by omega, by rw [ordAt_first hf]; exact b1, fac_pos _, hY.keep 0 H H1 h hw hn0 (k1.mono (by simp))⟩) ?_
  rintro e env2 H2 ⟨rfl, hr⟩ _
  simp (disch := omega) [-getElem?_pos, if_pos, if_neg, decide_eq_true, decide_eq_false, ]
  exact hr
theorem All_spec {H : AH} {p : Nat → Prop} {v : Value} {x : InstD} (hx : InstV p H v x) : AFn Try.prog F_brute_All [v] H fun u H' => ∃ iv cv sv, v = .agg (instC x iv cv sv).toArray ∧ u = .func (.func F_brute_All_1) #[] #[.pointer (some ⟨H.next, 0, none⟩)] ∧ H' = H.alloc (.row (instC x iv cv sv) T_inst_Inst true) := by
  obtain ⟨iv, cv, sv, rfl, i1, i2, i3, h1, h2, h3⟩ := id hx
  refine AFn.enter mixed ir_brute_All_eq (by simp [ir_brute_All]) fun hw => ?_
  simp (disch := omega) [-getElem?_pos, if_pos, if_neg, decide_eq_true, decide_eq_false, ir_brute_All, inst_cut]
  exact ⟨iv, cv, sv, ⟨rfl, rfl, rfl⟩, rfl⟩
def MkI (l n0 C : Nat) (Inv : Nat → AH → Prop) (k : Nat) (env : Env) (H' : AH) : Prop :=
  env 0 = some (.func (.yield l) #[] #[]) ∧ env 32 = some (.int .i64 C) ∧ env 33 = some (.int .i64 k) ∧ WF H' ∧ n0 ≤ H'.next ∧ Inv k H'
def MkQ (C : Nat) (Inv : Nat → AH → Prop) (Fin : AH → Prop) (e : AExit) (env : Env) (H' : AH) : Prop := (e = .exit 1 ∧ Inv C H') ∨ (e = .ret ∧ Fin H')
theorem masks_l0 {l n0 C : Nat} {Inv : Nat → AH → Prop} {Fin : AH → Prop} (hC : C ≤ 1048576) (hY : Yld l n0 C (chosenL 20 0) [] Inv Fin) {env : Env} {H : AH} (h : MkI l n0 C Inv 0 env H) :
    wpC Try.prog 42 (.loop ir_brute_All_1_l0) (MkQ C Inv Fin) env H := by
  refine loop_upto C (MkI l n0 C Inv) (Q := MkQ C Inv Fin) h ?_
  rintro k env H' hk ⟨e0, e32, e33, w', n', hI⟩
  by_cases hkn : k < C
  · simp (disch := omega) [-getElem?_pos, if_pos, if_neg, decide_eq_true, decide_eq_false, ir_brute_All_1_l0, e0, e32, e33]
    refine (chosen_spec (f := 20) (m := k) (by omega) (by omega)).mono' fun u H2 w2 ⟨S, hA, k2, hS⟩ => ?_
    have n2 := k2.next
    have hl := chosen_max3 20 (k := 0) (m := k)
    have hI2 := hY.keep k H' H2 hI w' n' k2
    have hv : SlV (fun b => n0 ≤ b ∧ b < H2.next ∧ b ∉ []) H2 u (chosenL 20 0 k) := hA.slv (fun _ h => h.elim) (fun b hb => ⟨by have := hS b hb; omega, hA.lt w2 b hb, by simp⟩) (by omega)
    obtain ⟨ua, uc, rfl⟩ := hA.slice
    simp (disch := omega) [-getElem?_pos, if_pos, if_neg, decide_eq_true, decide_eq_false, e0]
    refine ACall_yield_of ((hY.step k H2 _ hkn hI2 w2 (by omega) hv).mono_wf (Q' := fun r H' => WF H' ∧ _) fun r H3 w3 h => ⟨w3, h⟩) fun r H3 ⟨w3, n3, o3, hr⟩ => ?_
    rcases hr with ⟨rfl, hI3⟩ | ⟨rfl, hF⟩
    · simp (disch := omega) [-getElem?_pos, if_pos, if_neg, decide_eq_true, decide_eq_false, e0, e32, e33, IntWalk.i64_in]
      exact ⟨hkn, by simp [e0], by simp [e32], by simp, w3, by omega, hI3⟩
    · simp (disch := omega) [-getElem?_pos, if_pos, if_neg, decide_eq_true, decide_eq_false, ]
      exact .inr ⟨rfl, hF⟩
  · obtain rfl : k = C := by omega
    simp (disch := omega) [-getElem?_pos, if_pos, if_neg, decide_eq_true, decide_eq_false, ir_brute_All_1_l0, e32, e33]
    exact .inl ⟨rfl, hI⟩
theorem All1_spec {H : AH} {l n0 q C : Nat} {p : Nat → Prop} {x : InstD} {iv cv sv : Value} {Inv : List Nat → Nat → AH → Prop} {Fin : List Nat → AH → Prop} (hx : InstV p H (.agg (instC x iv cv sv).toArray) x) (hq : H.cells q = some (instC x iv cv sv)) (hE : x.countE = 0) (hC : x.count = (C : Int)) (hn0 : n0 ≤ H.next)
    (hY : ∀ O, (∀ b ∈ O, n0 ≤ b) → Yld l n0 C x.at O (Inv O) (Fin O)) (h : ∀ O, (∀ b ∈ O, n0 ≤ b) → Inv O 0 H) :
    AFn Try.prog F_brute_All_1 [.func (.yield l) #[] #[], .pointer (some ⟨q, 0, none⟩)] H fun _ H' => ∃ O, (∀ b ∈ O, n0 ≤ b) ∧ (Inv O C H' ∨ Fin O H') := by
  refine AFn.enter mixed ir_brute_All_1_eq (by simp [ir_brute_All_1]) fun hw => ?_
  have hm2 : x.cost.length ≤ 9223372036854775807 ∧ ∃ a c, cv = .slice a x.cost.length c := by
    obtain ⟨iv', cv', sv', e, _, _, _, _, h2, _⟩ := hx
    simp [instC] at e
    obtain ⟨_, rfl, _⟩ := e
    exact ⟨h2.max, h2.slice⟩
  obtain ⟨hm2, ca, cc, rfl⟩ := hm2
  have hq0 : cut (instC x iv (.slice ca x.cost.length cc) sv) 0 6 = some (instC x iv (.slice ca x.cost.length cc) sv) := inst_cut x iv _ sv
  simp (disch := omega) [-getElem?_pos, if_pos, if_neg, decide_eq_true, decide_eq_false, ir_brute_All_1, hq, inst_cut]
  refine AFn.pure (Count_spec hx) ?_
  by_cases hs : x.kind = 0 ∨ x.kind = 3
  · obtain ⟨hok, N, hN, hn, hcn⟩ := count_sub hE hs
    have hCN : C = 2 ^ N := by rw [hC] at hcn; omega
    have hpw : (2 : Nat) ^ N ≤ 2 ^ 20 := Nat.pow_le_pow_right (by omega) (by omega)
    have hk1 : (x.kind = 1) = False := eq_false (by omega)
    have hk2 : (x.kind = 2) = False := eq_false (by omega)
    have hat : x.at = chosenL 20 0 := by funext k; unfold InstD.at; rw [if_pos hs]
    have hY' := hY [] (by simp)
    rw [hat] at hY'
    simp (disch := omega) [-getElem?_pos, if_pos, if_neg, decide_eq_true, decide_eq_false, hE, hC, hq, hk1, hk2]
    refine wpC_use (masks_l0 (C := C) (by omega) hY' ⟨by simp, by simp, by simp, hw, hn0, h [] (by simp)⟩) ?_
    rintro e env1 H1 (⟨rfl, hI⟩ | ⟨rfl, hF⟩) hu
    · simp (disch := omega) [-getElem?_pos, if_pos, if_neg, decide_eq_true, decide_eq_false, ]
      exact ⟨[], by simp, .inl hI⟩
    · simp (disch := omega) [-getElem?_pos, if_pos, if_neg, decide_eq_true, decide_eq_false, ]
      exact ⟨[], by simp, .inr hF⟩
  · obtain ⟨hok, hf1, hf2, hcn, hcl⟩ := count_ord hE hs
    have hCF : C = fac (x.cost.length - fix1 x.kind) := by rw [hC] at hcn; omega
    have hat : x.at = ordAt x.cost.length (fix1 x.kind) := by funext k; unfold InstD.at ordAt; rw [if_neg hs]
    have k0 := hok.kind0
    have k4 := hok.kind4
    have hY' := hY [H.next] (by simpa using hn0)
    have h' := h [H.next] (by simpa using hn0)
    rw [hat, hCF] at hY'
    by_cases hk1 : x.kind = 1
    · have hk1T := eq_true hk1
      have hfx : fix1 x.kind = 0 := by unfold fix1; rw [if_neg (by omega)]
      rw [hfx] at hY' hCF
      simp (disch := omega) [-getElem?_pos, if_pos, if_neg, decide_eq_true, decide_eq_false, hE, hC, hq, hk1T]
      refine (orders_spec (l := l) (n0 := n0) (f := 0) (by omega) (by omega) hn0 hY' h').mono' fun u H2 w2 hr => ?_
      simp (disch := omega) [-getElem?_pos, if_pos, if_neg, decide_eq_true, decide_eq_false, ]
      exact ⟨[H.next], by simpa using hn0, by rw [hCF]; exact hr⟩
    · have hk2 : x.kind = 2 := by omega
      have hk2T := eq_true hk2
      have hfx : fix1 x.kind = 1 := by unfold fix1; rw [if_pos hk2]
      rw [hfx] at hY' hCF hf1
      simp (disch := omega) [-getElem?_pos, if_pos, if_neg, decide_eq_true, decide_eq_false, hE, hC, hq, hk1, hk2T]
      refine (orders_spec (l := l) (n0 := n0) (f := 1) (by omega) (by omega) hn0 hY' h').mono' fun u H2 w2 hr => ?_
      simp (disch := omega) [-getElem?_pos, if_pos, if_neg, decide_eq_true, decide_eq_false, ]
      exact ⟨[H.next], by simpa using hn0, by rw [hCF]; exact hr⟩
end Go.Proofs.Ytlcddhgfkkjhkaa
