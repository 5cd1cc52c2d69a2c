/-
  Contracts of package bitset (6): Last, a range over slices.Backward.
-/
import Derived.Test.YtakdkbdjjlmccaaDoorBitSet5
set_option maxRecDepth 100000
set_option linter.unusedSimpArgs false
set_option linter.unusedVariables false
namespace Go.Proofs.YtakdkbdjjlmccaaDoor
open Go Go.Abs

/-- The greatest number of a set below n; -1: there is none. -/
def lastU (A : List Bool) : Nat → Int
  | 0 => -1
  | n + 1 => if A.getD n false then (n : Int) else lastU A n
def lastB (A : List Bool) : Int := lastU A A.length

theorem lastU_skip (A : List Bool) {m n : Nat} (h : m ≤ n) (hn : ∀ j, m ≤ j → j < n → A.getD j false = false) : lastU A n = lastU A m := by
  induction n with
  | zero => obtain rfl : m = 0 := by omega
            rfl
  | succ n ih =>
    by_cases hm : m = n + 1
    · rw [hm]
    · rw [lastU, hn n (by omega) (by omega)]
      simpa using ih (by omega) fun j h1 h2 => hn j h1 (by omega)

theorem lastU_high (A : List Bool) {n : Nat} (h : A.length ≤ n) : lastU A n = lastB A :=
  lastU_skip A h fun j h1 _ => by rw [List.getD_eq_getElem?_getD, List.getElem?_eq_none (by omega)]; rfl

theorem lastU_word (A : List Bool) (k : Nat) : lastU A (64 * (k + 1)) = if wb A k = 0 then lastU A (64 * k) else ((64 * k + Nat.log2 (wb A k) : Nat) : Int) := by
  split
  · rename_i h
    refine lastU_skip A (by omega) fun j h1 h2 => ?_
    have := wb_bit A k (j - 64 * k) (by omega)
    rw [h, Nat.zero_testBit, show 64 * k + (j - 64 * k) = j by omega] at this
    exact this.symm
  · rename_i h
    obtain ⟨h1, h2⟩ := (Nat.log2_eq_iff h).1 rfl
    have ht : Nat.log2 (wb A k) < 64 := by rw [Nat.log2_lt h]; exact wb_lt A k
    have hbit : A.getD (64 * k + Nat.log2 (wb A k)) false = true := by
      rw [← wb_bit A k _ ht, Nat.testBit_eq_decide_div_mod_eq]
      have h3 : wb A k / 2 ^ Nat.log2 (wb A k) = 1 := by
        have hp := Nat.two_pow_pos (Nat.log2 (wb A k))
        have q1 := (Nat.le_div_iff_mul_le hp).2 (show 1 * 2 ^ Nat.log2 (wb A k) ≤ wb A k by omega)
        have q2 := (Nat.div_lt_iff_lt_mul hp).2 (show wb A k < 2 * 2 ^ Nat.log2 (wb A k) by rw [Nat.pow_succ] at h2; omega)
        omega
      rw [h3]; rfl
    rw [lastU_skip A (m := 64 * k + Nat.log2 (wb A k) + 1) (by omega), lastU, hbit]
    · simp
    · intro j q1 q2
      rw [← show 64 * k + (j - 64 * k) = j by omega, ← wb_bit A k _ (by omega)]
      exact Nat.testBit_lt_two_pow (Nat.lt_of_lt_of_le h2 (Nat.pow_le_pow_right (by omega) (by omega)))

theorem idxTo_last (A : List Bool) (n : Nat) : (idxTo A n = [] ∧ lastU A n = -1) ∨ ∃ l k, idxTo A n = l ++ [k] ∧ lastU A n = (k : Nat) := by
  induction n with
  | zero => exact .inl ⟨rfl, rfl⟩
  | succ n ih =>
    cases h : A.getD n false with
    | true => exact .inr ⟨idxTo A n, n, idxTo_take h, by rw [lastU, h]; rfl⟩
    | false =>
      rw [idxTo_skip (m := n) (k := n + 1) (by omega) fun j h1 h2 => by rw [show j = n by omega]; exact h, lastU, h]
      simpa using ih

theorem wpC_range {P : Program} {n : Nat} {f : Operand} {ps : List Nat} {a b : ACode} {Q : AExit → Env → AH → Prop} {env : Env} {H : AH} {g : FuncId} {p q : Array Value} (hf : aval env f = some (.func (.func g) p q)) (hgood : goodFunc P g = true)
    (h : AFn P g (p.toList ++ [.func (.yield H.next) #[] #[]] ++ q.toList) (H.alloc (.loop { state := .ready, pending := none, env, params := ps, assign := a, body := b, n })) fun _ H' => rangeK H.next Q env H') : wpC P n (.rangeFunc f ps a b) Q env H := by
  simp only [wpC, hf]
  rw [ACall_clo hgood]
  exact h

theorem Backward_spec {H : AH} {sl : Value} (h : one sl = true) (hc : cellsOf sl = some [sl]) : AFn Tryd.prog F_slices_Backward_Luint64_uint64 [sl] H fun u H' => u = .func (.func F_slices_Backward_Luint64_uint64__1) #[] #[.pointer (some ⟨H.next, 0, none⟩)] ∧ H' = H.alloc (.row [sl] T_Luint64 true) := by
  refine AFn.enter mixed ir_slices_Backward_Luint64_uint64_eq (by simp [ir_slices_Backward_Luint64_uint64]) fun hw => ?_
  simp (disch := omega) [-getElem?_pos, if_pos, if_neg, decide_eq_true, decide_eq_false, ir_slices_Backward_Luint64_uint64, hc]

def BackI (A : List Bool) (l q : Nat) (H1 : AH) (j : Nat) (env : Env) (H' : AH) : Prop :=
  H' = H1 ∧ env 0 = some (.func (.yield l) #[] #[]) ∧ env 1 = some (.pointer (some ⟨q, 0, none⟩)) ∧ env 3 = some (.int .i64 ((j : Int) - 1)) ∧ j ≤ nw A.length ∧ lastB A = lastU A (64 * j)

def lastAssign : ACode := (.seq (.region [⟨(some 3), (.mv (.tmp 8)), none⟩] false) (.region [⟨(some 4), (.mv (.tmp 9)), none⟩] false))
def lastBody : ACode := (.block 1 (.seq (.region [⟨(some 10), (.mv (.tmp 4)), none⟩, ⟨(some 11), (.bin .neq (.tmp 10) (.const (uv 0))), none⟩] false) (.cond (.tmp 11) (.seq (.region [⟨(some 12), (.mv (.tmp 3)), none⟩, ⟨(some 13), (.bin .mul (.tmp 12) (.const (.int .i64 64))), none⟩, ⟨(some 14), (.mv (.tmp 4)), none⟩, ⟨(some 15), (.call (.func F_bits_Len64) [(.tmp 14)]), none⟩, ⟨(some 16), (.bin .add (.tmp 13) (.tmp 15)), none⟩, ⟨(some 17), (.bin .sub (.tmp 16) (.const (.int .i64 1))), none⟩, ⟨none, (.store1 (.tmp 2) (.tmp 17)), none⟩] false) .ret) .skip)))

/-- What the range leaves. -/
def LastPost (A : List Bool) (l r : Nat) (L0 : LoopA) (H1 : AH) (H' : AH) : Prop :=
  (lastB A = -1 ∧ H' = H1) ∨ H' = (H1.set r (.row [.int .i64 (lastB A)] T_int true)).set l (.loop { L0 with state := .done, pending := some .ret })

theorem set_over {H : AH} {l r : Nat} {X Y Z : Blk} (h : l ≠ r) : ((H.set l X).set r Y).set l Z = (H.set r Y).set l Z := by
  simp only [AH.set]
  congr 1
  funext i
  by_cases h1 : i = l
  · simp [h1]
  · simp [h1]

theorem loopA_eq {L : LoopA} (h1 : L.state = .ready) (h2 : L.pending = none) : ({ L with state := .ready, pending := none } : LoopA) = L := by
  cases L; simp at h1 h2; simp [h1, h2]

theorem back_walk {H1 : AH} {l q r : Nat} {A : List Bool} {L0 : LoopA} {p : Nat → Prop} {a : Option Addr} {c : Nat} (hl : H1.blk l = some (.loop L0)) (h1 : L0.state = .ready) (h2 : L0.pending = none) (h3 : L0.params = [8, 9]) (h4 : L0.assign = lastAssign) (h5 : L0.body = lastBody) (h6 : L0.n = 18)
    (hset : H1.set l (.loop L0) = H1) (hq : H1.cells q = some [.slice a (nw A.length) c]) (hr : H1.blk r = some (.row [.int .i64 0] T_int true)) (hlr : l ≠ r) (he2 : L0.env 2 = some (.pointer (some ⟨r, 0, none⟩)))
    (hv : Vw p H1 1 (.slice a (nw A.length) c) (nw A.length) ((words A).map uv)) (hA : A.length ≤ 4096) :
    AFn Tryd.prog F_slices_Backward_Luint64_uint64__1 [.func (.yield l) #[] #[], .pointer (some ⟨q, 0, none⟩)] H1 fun _ H' => LastPost A l r L0 H1 H' := by
  refine AFn.enter mixed ir_slices_Backward_Luint64_uint64__1_eq (by simp [ir_slices_Backward_Luint64_uint64__1]) fun hw => ?_
  have hnn : nw A.length ≤ 65 := by unfold nw; omega
  simp (disch := omega) [-getElem?_pos, if_pos, if_neg, decide_eq_true, decide_eq_false, ir_slices_Backward_Luint64_uint64__1, hq, IntWalk.i64_in]
  refine wpC_use (loop_rule (BackI A l q H1) (Q := fun e env H' => (e = .exit 0 ∧ lastB A = -1 ∧ H' = H1) ∨ (e = .ret ∧ LastPost A l r L0 H1 H')) ?_ (j := nw A.length) ⟨rfl, by simp, by simp, by simp, Nat.le_refl _, (lastU_high A (by unfold nw; omega)).symm⟩) fun e env2 H4 he _ => ?_
  · rintro j env H' ⟨rfl, e0, e1, e3, hj, hU⟩
    cases j with
    | zero =>
      simp (disch := omega) [-getElem?_pos, if_pos, if_neg, decide_eq_true, decide_eq_false, ir_slices_Backward_Luint64_uint64__1_l0, e3]
      exact hU
    | succ j =>
      rw [lastU_word] at hU
      have hjj : ((j + 1 : Nat) : Int) - 1 = (j : Nat) := by omega
      rw [hjj] at e3
      obtain ⟨b, off, sp, cap, cs, hsl, h7, h8⟩ := words_at hv (by omega)
      cases hsl
      have h9 := h8 j (by omega)
      have hlt := wb_lt A j
      simp (disch := omega) [-getElem?_pos, if_pos, if_neg, decide_eq_true, decide_eq_false, ir_slices_Backward_Luint64_uint64__1_l0, e0, e1, e3, hq, h7, h9]
      refine ⟨rfl, rfl, AYield.intro mixed hl (by rw [h3]; rfl) ?_⟩
      rw [h3, show wpC Tryd.prog L0.n L0.assign = wpC Tryd.prog 18 lastAssign by rw [h4, h6], show wpC Tryd.prog L0.n = wpC Tryd.prog 18 by rw [h6]]
      simp (disch := omega) [-getElem?_pos, if_pos, if_neg, decide_eq_true, decide_eq_false, lastAssign, putAll]
      refine ⟨_, hl, h1, ?_⟩
      rw [show wpC Tryd.prog 18 L0.body = wpC Tryd.prog 18 lastBody by rw [h5]]
      by_cases h0 : wb A j = 0
      · rw [if_pos h0] at hU
        have g : abin .neq (uv (wb A j)) (uv 0) = some (.bool false) := by rw [uv_neq]; simp [h0]
        generalize wb A j = x at *
        simp (disch := omega) [-getElem?_pos, if_pos, if_neg, decide_eq_true, decide_eq_false, lastBody, ↓g]
        refine ⟨_, AH.set_blk_same, ?_⟩
        simp only [AH.set_set, loopA_eq h1 h2, hset]
        simp (disch := omega) [-getElem?_pos, if_pos, if_neg, decide_eq_true, decide_eq_false, e3, IntWalk.i64_in]
        exact ⟨j, by omega, rfl, by simp [e0], by simp [e1], by simp, by omega, hU⟩
      · rw [if_neg h0] at hU
        have g : abin .neq (uv (wb A j)) (uv 0) = some (.bool true) := by rw [uv_neq]; simp [h0]
        have ht : Nat.log2 (wb A j) < 64 := by rw [Nat.log2_lt h0]; exact hlt
        have hlen : ∀ H, AFn Tryd.prog F_bits_Len64 [uv (wb A j)] H fun u H' => u = .int .i64 (Nat.log2 (wb A j) + 1 : Nat) ∧ H' = H := fun H => Len64_spec hlt (by omega)
        generalize Nat.log2 (wb A j) = t at *
        generalize wb A j = x at *
        simp (disch := omega) [-getElem?_pos, if_pos, if_neg, decide_eq_true, decide_eq_false, lastBody, ↓g, IntWalk.i64_in]
        refine AFn.pure (hlen _) ?_
        simp (disch := omega) [-getElem?_pos, if_pos, if_neg, decide_eq_true, decide_eq_false, IntWalk.i64_in, he2, writeA, hr, hlr.symm]
        refine ⟨_, by rw [AH.set_blk_ne hlr, AH.set_blk_same], ?_⟩
        simp (disch := omega) [-getElem?_pos, if_pos, if_neg, decide_eq_true, decide_eq_false, ]
        right
        rw [set_over hlr, show ((j : Int) * 64 + ((t : Int) + 1) - 1) = lastB A by rw [hU]; simp; omega]
  · rcases he with ⟨rfl, h0, rfl⟩ | ⟨rfl, h0⟩
    · simp (disch := omega) [-getElem?_pos, if_pos, if_neg, decide_eq_true, decide_eq_false, ]
      exact .inl ⟨h0, rfl⟩
    · simp (disch := omega) [-getElem?_pos, if_pos, if_neg, decide_eq_true, decide_eq_false, ]
      exact h0

theorem Last_spec {p : Nat → Prop} {H : AH} {v : Value} {A : List Bool} (hA : SetB p H v A) : AFn Tryd.prog F_bitset_Set_Last [v] H fun u H' => u = .int .i64 (lastB A) ∧ H' = H := by
  refine AFn.calm (fun H0 hs => ?_) rfl
  obtain ⟨sl, rfl, h2, h3⟩ := hA.same hs
  refine AFn.enter mixed ir_bitset_Set_Last_eq (by simp [ir_bitset_Set_Last]) fun hw => ?_
  obtain ⟨a, c, rfl⟩ := h2.slice
  simp (disch := omega) [-getElem?_pos, if_pos, if_neg, decide_eq_true, decide_eq_false, ir_bitset_Set_Last]
  generalize hH1 : (H0.alloc (.row [.int .i64 A.length, .slice a (nw A.length) c] T_bitset_Set true)).alloc (.row [.int .i64 0] T_int true) = H1
  have k1 : Keep [] H0 H1 := by rw [← hH1]; exact .new_alloc .alloc
  have w1 : WF H1 := by rw [← hH1]; exact hw.alloc.alloc
  have hn1 : H1.next = H0.next + 2 := by rw [← hH1]; simp
  have hr1 : H1.blk (H0.next + 1) = some (.row [.int .i64 0] T_int true) := by rw [← hH1]; simp
  refine (Backward_spec rfl rfl).mono' fun u H2 w2 ⟨hu, hH2⟩ => ?_
  subst hu
  have k2 : Keep [] H1 H2 := by rw [hH2]; exact .alloc
  have hn2 : H2.next = H0.next + 3 := by rw [hH2]; simp [hn1]
  have hq2 : H2.cells H1.next = some [.slice a (nw A.length) c] := by rw [hH2]; simp
  have hr2 : H2.blk (H0.next + 1) = some (.row [.int .i64 0] T_int true) := by rw [k2.blk _ (by omega) (by simp), hr1]
  have hv2 := (h2.kept hw (k1.trans' k2))
  simp (disch := omega) [-getElem?_pos, if_pos, if_neg, decide_eq_true, decide_eq_false, ]
  refine wpC_range (p := #[]) (q := #[.pointer (some ⟨H1.next, 0, none⟩)]) (by simp) good_slices_Backward_Luint64_uint64__1 ?_
  generalize hL : (LoopA.mk _ _ _ _ _ _ _ : LoopA) = L0
  have b1 : L0.state = .ready := by rw [← hL]
  have b2 : L0.pending = none := by rw [← hL]
  have b3 : L0.params = [8, 9] := by rw [← hL]
  have b4 : L0.assign = lastAssign := by rw [← hL]; rfl
  have b5 : L0.body = lastBody := by rw [← hL]; rfl
  have b6 : L0.n = 18 := by rw [← hL]
  have b7 : L0.env 2 = some (.pointer (some ⟨H0.next + 1, 0, none⟩)) := by rw [← hL]; simp
  clear hL
  refine (back_walk (r := H0.next + 1) (AH.alloc_blk_new (H := H2)) b1 b2 b3 b4 b5 b6 (by simp) (by rw [AH.cells_alloc_ne (by omega)]; exact hq2) (by rw [AH.alloc_blk_ne (by omega)]; exact hr2) (by omega) b7 (hv2.kept w2 .alloc) h3).mono' fun u H5 w5 hpost => ?_
  rcases hpost with ⟨hm, rfl⟩ | rfl
  · unfold rangeK
    rw [AH.alloc_blk_new]
    simp only [b1, b2]
    refine ⟨by simp, ?_⟩
    simp (disch := omega) [-getElem?_pos, if_pos, if_neg, decide_eq_true, decide_eq_false, writeA, hr2, hm]
  · unfold rangeK
    rw [AH.set_blk_same]
    refine ⟨by simp, by simp, ?_⟩
    simp (disch := omega) [-getElem?_pos, if_pos, if_neg, decide_eq_true, decide_eq_false, AH.cells_set_ne]
end Go.Proofs.YtakdkbdjjlmccaaDoor
