/-
  Contracts of package bitset: a set of numbers is a list of truths.
-/
import Derived.Test.YtakdkbdjjlmccaaDoorBitFn
import Derived.Test.YtakdkbdjjlmccaaDoorA31
set_option maxRecDepth 100000
set_option linter.unusedSimpArgs false
set_option linter.unusedVariables false
namespace Go.Proofs.YtakdkbdjjlmccaaDoor
open Go Go.Abs
def SetB (p : Nat → Prop) (H : AH) (v : Value) (B : List Bool) : Prop :=
  ∃ sl, v = .agg #[.int .i64 B.length, sl] ∧ Vw p H 1 sl (nw B.length) ((words B).map uv) ∧ B.length ≤ 4096
theorem SetB.kept {p : Nat → Prop} {H H' : AH} {v : Value} {B : List Bool} (h : SetB p H v B) (hw : WF H) (hk : Keep [] H H') : SetB p H' v B := by
  obtain ⟨sl, h1, h2, h3⟩ := h
  exact ⟨sl, h1, h2.kept hw hk, h3⟩
theorem SetB.mono {p q : Nat → Prop} {H : AH} {v : Value} {B : List Bool} (h : SetB p H v B) (hpq : ∀ b, p b → q b) : SetB q H v B := by
  obtain ⟨sl, h1, h2, h3⟩ := h
  exact ⟨sl, h1, h2.mono hpq, h3⟩
theorem SetB.over {p : Nat → Prop} {H H' : AH} {v : Value} {B : List Bool} (h : SetB p H v B) (hk : ∀ b, p b → H'.cells b = H.cells b) : SetB p H' v B := by
  obtain ⟨sl, h1, h2, h3⟩ := h
  exact ⟨sl, h1, h2.over hk, h3⟩
def hasB (B : List Bool) (i : Int) : Bool := decide (0 ≤ i) && B.getD i.toNat false
def setB (B : List Bool) (i : Int) (b : Bool) : List Bool := if 0 ≤ i ∧ i < B.length then B.set i.toNat b else B
theorem SetB.same {p : Nat → Prop} {H H0 : AH} {v : Value} {B : List Bool} (h : SetB p H v B) (hs : SameC H H0) : SetB p H0 v B := by
  obtain ⟨sl, h1, h2, h3⟩ := h
  exact ⟨sl, h1, h2.same hs, h3⟩
theorem _root_.Go.Abs.GroundA.same {G : GTab} {H H0 : AH} (h : GroundA G H) (hs : SameC H H0) : GroundA G H0 := h.of hs.2
theorem tq64 (m : Nat) : ((m : Int)).tdiv 64 = ((m / 64 : Nat) : Int) := by rw [Int.tdiv_eq_ediv_of_nonneg (by omega)]; norm_cast
theorem tr64 (m : Nat) : ((m : Int)).tmod 64 = ((m % 64 : Nat) : Int) := by rw [Int.tmod_eq_emod_of_nonneg (by omega)]; norm_cast
theorem nw_lt {m n : Nat} (h : m < n) : m / 64 < nw n := by unfold nw; omega
theorem words_at {p : Nat → Prop} {H : AH} {sl : Value} {B : List Bool} (h : Vw p H 1 sl (nw B.length) ((words B).map uv)) (h0 : 0 < nw B.length) :
    ∃ b off sp cap cs, sl = .slice (some ⟨b, off, sp⟩) (nw B.length) cap ∧ H.cells b = some cs ∧ ∀ k, k < nw B.length → cs[off + k]? = some (uv (wb B k)) := by
  obtain ⟨b, off, sp, cap, cs, h1, h2, h3, h4, h5, h6, h7⟩ := h.at h0
  refine ⟨b, off, sp, cap, cs, h1, h4, fun k hk => ?_⟩
  rw [h6 k (by omega), List.getElem?_map, words_get B k hk]
  rfl
theorem within_spec {H : AH} {n i : Int} {sl : Value} (hsl : one sl = true) : AFn Tryd.prog F_bitset_Set_within [.agg #[.int .i64 n, sl], .int .i64 i] H fun u H' => u = .bool (decide (0 ≤ i ∧ i < n)) ∧ H' = H := by
  refine AFn.calm (fun H hs => ?_) rfl
  refine AFn.enter mixed ir_bitset_Set_within_eq (by simp [ir_bitset_Set_within]) fun hw => ?_
  by_cases h1 : 0 ≤ i
  · simp (disch := omega) [-getElem?_pos, if_pos, if_neg, decide_eq_true, decide_eq_false, ir_bitset_Set_within]
  · simp (disch := omega) [-getElem?_pos, if_pos, if_neg, decide_eq_true, decide_eq_false, ir_bitset_Set_within]
theorem Size_spec {p : Nat → Prop} {H : AH} {v : Value} {B : List Bool} (h : SetB p H v B) : AFn Tryd.prog F_bitset_Set_Size [v] H fun u H' => u = .int .i64 B.length ∧ H' = H := by
  obtain ⟨sl, rfl, h2, h3⟩ := h
  refine AFn.calm (fun H hs => ?_) rfl
  refine AFn.enter mixed ir_bitset_Set_Size_eq (by simp [ir_bitset_Set_Size]) fun hw => ?_
  simp (disch := omega) [-getElem?_pos, if_pos, if_neg, decide_eq_true, decide_eq_false, ir_bitset_Set_Size]
theorem split64 {i : Int} {n : Nat} (h : 0 ≤ i ∧ i < n) : ∃ k r, i.tdiv 64 = ((k : Nat) : Int) ∧ i.tmod 64 = ((r : Nat) : Int) ∧ i.toNat = 64 * k + r ∧ r < 64 ∧ k < nw n := by
  obtain ⟨m, rfl⟩ := Int.eq_ofNat_of_zero_le h.1
  refine ⟨m / 64, m % 64, tq64 m, tr64 m, by simp; omega, by omega, nw_lt (by omega)⟩
theorem bit_of (B : List Bool) (k r : Nat) (h : r < 64) : (wb B k / 2 ^ r &&& 1 = 1) ↔ B.getD (64 * k + r) false = true := by
  have h := wb_bit B k r h
  rw [Nat.testBit_eq_decide_div_mod_eq] at h
  rw [Nat.and_one_is_mod, ← h]
  simp
theorem div_lt' {x k : Nat} (h : x < 18446744073709551616) : x / k < 18446744073709551616 := Nat.lt_of_le_of_lt (Nat.div_le_self _ _) h
theorem Has_spec {p : Nat → Prop} {H : AH} {v : Value} {B : List Bool} (h : SetB p H v B) (i : Int) : AFn Tryd.prog F_bitset_Set_Has [v, .int .i64 i] H fun u H' => u = .bool (hasB B i) ∧ H' = H := by
  refine AFn.calm (fun H0 hs => ?_) rfl
  obtain ⟨sl, rfl, h2, h3⟩ := h.same hs
  refine AFn.enter mixed ir_bitset_Set_Has_eq (by simp [ir_bitset_Set_Has]) fun hw => ?_
  simp (disch := omega) [-getElem?_pos, if_pos, if_neg, decide_eq_true, decide_eq_false, ir_bitset_Set_Has, cut]
  refine AFn.pure (within_spec h2.agg.1) ?_
  by_cases hi : 0 ≤ i ∧ i < B.length
  · obtain ⟨k, r, hq, hr, hkr, hr64, hk⟩ := split64 hi
    obtain ⟨b, off, sp, cap, cs, rfl, h5, h6⟩ := words_at h2 (by omega)
    have h7 := h6 k hk
    have h8 := wb_lt B k
    have hb := hw.lt (cells_blk h5).choose_spec.choose_spec
    have h9 : abin .shr (uv (wb B k)) (.int .i64 (r : Int)) = some (uv (wb B k / 2 ^ r)) := uv_shr h8
    have h10 : abin .and (uv (wb B k / 2 ^ r)) (uv 1) = some (uv (wb B k / 2 ^ r &&& 1)) := uv_and (div_lt' h8) (by omega)
    have h11 : abin .eql (uv (wb B k / 2 ^ r &&& 1)) (uv 1) = some (.bool (hasB B i)) := by
      rw [uv_eql]; congr 2; simp only [bit_of B k r hr64, hasB, hkr, hi.1]; simp
    generalize wb B k / 2 ^ r &&& 1 = z at *
    generalize wb B k / 2 ^ r = y at *
    generalize wb B k = x at *
    simp (disch := omega) [-getElem?_pos, if_pos, if_neg, decide_eq_true, decide_eq_false, hi, hq, hr, IntWalk.i64_in, h5, h7, ↓h9, ↓h10, ↓h11]
  · have : hasB B i = false := by
      unfold hasB
      by_cases h0 : 0 ≤ i
      · have : B.length ≤ i.toNat := by omega
        simp [List.getD_eq_getElem?_getD, List.getElem?_eq_none this]
      · simp [h0]
    simp (disch := omega) [-getElem?_pos, if_pos, if_neg, decide_eq_true, decide_eq_false, hi, this]
theorem word_spec {p : Nat → Prop} {H : AH} {v : Value} {B : List Bool} (h : SetB p H v B) (k : Nat) : AFn Tryd.prog F_bitset_Set_word [v, .int .i64 k] H fun u H' => u = uv (wb B k) ∧ H' = H := by
  refine AFn.calm (fun H0 hs => ?_) rfl
  obtain ⟨sl, rfl, h2, h3⟩ := h.same hs
  refine AFn.enter mixed ir_bitset_Set_word_eq (by simp [ir_bitset_Set_word]) fun hw => ?_
  by_cases hk : k < nw B.length
  · obtain ⟨b, off, sp, cap, cs, rfl, h5, h6⟩ := words_at h2 (by omega)
    have hb := hw.lt (cells_blk h5).choose_spec.choose_spec
    have h7 := h6 k hk
    simp (disch := omega) [-getElem?_pos, if_pos, if_neg, decide_eq_true, decide_eq_false, ir_bitset_Set_word, cut, h5, h7]
  · obtain ⟨a, c, rfl⟩ := h2.slice
    have : wb B k = 0 := by
      unfold wb
      rw [List.drop_eq_nil_of_le (by unfold nw at hk; omega)]
      rfl
    rw [this]
    simp (disch := omega) [-getElem?_pos, if_pos, if_neg, decide_eq_true, decide_eq_false, ir_bitset_Set_word, cut]
theorem count_le (B : List Bool) : B.count true ≤ B.length := List.count_le_length
theorem Count_spec {p : Nat → Prop} {H : AH} {v : Value} {B : List Bool} (h : SetB p H v B) : AFn Tryd.prog F_bitset_Set_Count [v] H fun u H' => u = .int .i64 (B.count true) ∧ H' = H := by
  refine AFn.calm (fun H0 hs => ?_) rfl
  obtain ⟨sl, rfl, h2, h3⟩ := h.same hs
  refine AFn.enter mixed ir_bitset_Set_Count_eq (by simp [ir_bitset_Set_Count]) fun hw => ?_
  obtain ⟨a, c, rfl⟩ := h2.slice
  simp (disch := omega) [-getElem?_pos, if_pos, if_neg, decide_eq_true, decide_eq_false, ir_bitset_Set_Count, cut]
  generalize hH1 : H0.alloc _ = H1
  have h2' : Vw p H1 1 (.slice a (nw B.length) c) (nw B.length) ((words B).map uv) := hH1 ▸ h2.kept hw .alloc
  refine wpC_use (loop_upto (nw B.length) (fun k env H => H = H1 ∧ env 7 = some (.slice a (nw B.length) c) ∧ env 8 = some (.int .i64 (nw B.length : Nat)) ∧ env 9 = some (.int .i64 k) ∧ env 3 = some (.int .i64 ((B.take (64 * k)).count true : Nat))) (Q := fun e env H => e = .exit 0 ∧ env 3 = some (.int .i64 (B.count true : Nat))) (by simp) ?_) fun e env2 H2 ⟨he, h3⟩ _ => ?_
  · rintro k env H hk ⟨rfl, e7, e8, e9, e3⟩
    by_cases hkn : k < nw B.length
    · obtain ⟨b, off, sp, cap, cs, hsl, h5, h6⟩ := words_at h2' (by omega)
      cases hsl
      have h7 := h6 k hkn
      simp (disch := omega) [-getElem?_pos, if_pos, if_neg, decide_eq_true, decide_eq_false, ir_bitset_Set_Count_l0, e7, e8, e9, e3, h5, h7]
      refine AFn.pure (OnesCount64_spec (wb_lt B k)) ?_
      have hc := count_take B k
      have hl := count_le (B.take (64 * (k + 1)))
      have hl2 : (B.take (64 * (k + 1))).length ≤ B.length := by simp; omega
      have hkb : nw B.length ≤ 65 := by unfold nw; omega
      generalize (B.take (64 * k)).count true = c0 at *
      simp (disch := omega) [-getElem?_pos, if_pos, if_neg, decide_eq_true, decide_eq_false, e7, e8, e9, e3, IntWalk.i64_in]
      exact ⟨hkn, by omega⟩
    · obtain rfl : k = nw B.length := by omega
      rw [List.take_of_length_le (by unfold nw; omega)] at e3
      simp (disch := omega) [-getElem?_pos, if_pos, if_neg, decide_eq_true, decide_eq_false, ir_bitset_Set_Count_l0, e7, e8, e9, e3]
  · subst he
    simp (disch := omega) [-getElem?_pos, if_pos, if_neg, decide_eq_true, decide_eq_false, h3]
def NextIs (B : List Bool) (i : Nat) (r : Int) : Prop :=
  (r = -1 ∧ ∀ k, i ≤ k → B.getD k false = false) ∨ ∃ k : Nat, r = k ∧ i ≤ k ∧ k < B.length ∧ B.getD k false = true ∧ ∀ j, i ≤ j → j < k → B.getD j false = false
theorem NextIs.unique {B : List Bool} {i : Nat} {r s : Int} (h : NextIs B i r) (k : NextIs B i s) : r = s := by
  rcases h with ⟨rfl, h⟩ | ⟨a, rfl, h1, h2, h3, h4⟩
  · rcases k with ⟨rfl, _⟩ | ⟨b, rfl, k1, k2, k3, k4⟩
    · rfl
    · rw [h b k1] at k3; cases k3
  · rcases k with ⟨rfl, k⟩ | ⟨b, rfl, k1, k2, k3, k4⟩
    · rw [k a h1] at h3; cases h3
    · rcases Nat.lt_trichotomy a b with h | h | h
      · rw [k4 a h1 h] at h3; cases h3
      · rw [h]
      · rw [h4 b k1 h] at k3; cases k3
theorem hit {B : List Bool} {k r : Nat} (hr : r < 64) (h : wb B k / 2 ^ r ≠ 0) : ∃ t, (wb B k / 2 ^ r).testBit t = true ∧ (∀ j, j < t → (wb B k / 2 ^ r).testBit j = false) ∧ r + t < 64 ∧ B.getD (64 * k + (r + t)) false = true ∧ ∀ j, r ≤ j → j < r + t → B.getD (64 * k + j) false = false := by
  obtain ⟨t, h1, h2⟩ := lowest _ (Nat.pos_of_ne_zero h)
  have hb : ∀ j, (wb B k / 2 ^ r).testBit j = (wb B k).testBit (r + j) := fun j => by rw [← Nat.shiftRight_eq_div_pow, Nat.testBit_shiftRight]
  have hlt : r + t < 64 := by
    apply Classical.byContradiction
    intro hc
    rw [hb, wb_high B k _ (by omega)] at h1
    cases h1
  refine ⟨t, h1, h2, hlt, ?_, fun j hj1 hj2 => ?_⟩
  · rw [← wb_bit B k _ hlt, ← hb]; exact h1
  · have := h2 (j - r) (by omega)
    rw [hb, show r + (j - r) = j by omega, wb_bit B k _ (by omega)] at this
    exact this
theorem miss {B : List Bool} {k r : Nat} (h : wb B k / 2 ^ r = 0) : ∀ j, r ≤ j → j < 64 → B.getD (64 * k + j) false = false := by
  intro j h1 h2
  have hb : (wb B k / 2 ^ r).testBit (j - r) = (wb B k).testBit (r + (j - r)) := by rw [← Nat.shiftRight_eq_div_pow, Nat.testBit_shiftRight]
  rw [h, show r + (j - r) = j by omega, wb_bit B k j h2] at hb
  rw [← hb]
  simp
theorem getD_len {B : List Bool} {k : Nat} (h : B.getD k false = true) : k < B.length := by
  apply Classical.byContradiction
  intro hc
  rw [List.getD_eq_getElem?_getD, List.getElem?_eq_none (by omega)] at h
  cases h
theorem Next_spec {p : Nat → Prop} {H : AH} {v : Value} {B : List Bool} (hg : GroundA G H) (h : SetB p H v B) (i : Int) (r : Int) (hr : NextIs B i.toNat r) : AFn Tryd.prog F_bitset_Set_Next [v, .int .i64 i] H fun u H' => u = .int .i64 r ∧ H' = H := by
  refine AFn.calm (fun H0 hs => ?_) rfl
  obtain ⟨sl, rfl, h2, h3⟩ := h.same hs
  have hg0 := hg.same hs
  refine AFn.enter mixed ir_bitset_Set_Next_eq (by simp [ir_bitset_Set_Next]) fun hw => ?_
  have hi : (if i < 0 then (0 : Int) else i) = (i.toNat : Nat) := by split <;> omega
  simp (disch := omega) [-getElem?_pos, if_pos, if_neg, decide_eq_true, decide_eq_false, ir_bitset_Set_Next, cut, hi]
  generalize hH1 : H0.alloc _ = H1
  have hc1 : H1.cells H0.next = some [.int .i64 B.length, sl] := by rw [← hH1]; simp
  have h2' : Vw p H1 1 sl (nw B.length) ((words B).map uv) := hH1 ▸ h2.kept hw .alloc
  have hg1 : GroundA G H1 := hH1 ▸ hg0.kept hw .alloc
  generalize i.toNat = i0 at *
  refine wpC_use (loop_rule (Q := fun e env H' => (e = .exit 0 ∧ r = -1) ∨ (e = .ret ∧ env 4 = some (.int .i64 r))) (fun j env H' => H' = H1 ∧ env 2 = some (.pointer (some ⟨H0.next, 0, none⟩)) ∧ ∃ m : Nat, env 1 = some (.int .i64 m) ∧ i0 ≤ m ∧ j = B.length + 64 - m ∧ ∀ k, i0 ≤ k → k < m → B.getD k false = false) ?_ (j := B.length + 64 - i0) ⟨rfl, by simp, i0, by simp; omega, by omega, rfl, fun k h1 h2 => by omega⟩) fun e env2 H2 he _ => ?_
  · rintro j env H' ⟨rfl, e2, m, e1, him, rfl, hno⟩
    by_cases hm : m < B.length
    · obtain ⟨k, q, hq, hqr, hkr, hr64, hk⟩ := split64 (i := m) (n := B.length) (by omega)
      simp only [Int.toNat_natCast] at hkr
      obtain ⟨b, off, sp, cap, cs, rfl, h5, h6⟩ := words_at h2' (by omega)
      have h7 := h6 k hk
      have h8 := wb_lt B k
      have h9 : abin .shr (uv (wb B k)) (.int .i64 (q : Int)) = some (uv (wb B k / 2 ^ q)) := uv_shr h8
      have hy := div_lt' (k := 2 ^ q) h8
      by_cases h0 : wb B k / 2 ^ q = 0
      · have h10 : abin .neq (uv (wb B k / 2 ^ q)) (uv 0) = some (.bool false) := by rw [uv_neq]; simp [h0]
        have hms := miss h0
        generalize wb B k / 2 ^ q = y at *
        generalize wb B k = x at *
        simp (disch := omega) [-getElem?_pos, if_pos, if_neg, decide_eq_true, decide_eq_false, ir_bitset_Set_Next_l0, e1, e2, hc1, hq, hqr, h5, h7, ↓h9, ↓h10, IntWalk.i64_in]
        refine ⟨B.length + 64 - (64 * (k + 1)), by omega, 64 * (k + 1), by omega, by omega, rfl, fun j hj1 hj2 => ?_⟩
        by_cases hjm : j < m
        · exact hno j hj1 hjm
        · have := hms (j - 64 * k) (by omega) (by omega)
          rw [show 64 * k + (j - 64 * k) = j by omega] at this
          exact this
      · have h10 : abin .neq (uv (wb B k / 2 ^ q)) (uv 0) = some (.bool true) := by rw [uv_neq]; simp [h0]
        obtain ⟨t, t1, t2, t3, t4, t5⟩ := hit hr64 h0
        have hlen := getD_len t4
        obtain rfl : r = ((m + t : Nat) : Int) := by
          refine hr.unique (.inr ⟨m + t, rfl, by omega, by omega, by rw [show m + t = 64 * k + (q + t) by omega]; exact t4, fun j hj1 hj2 => ?_⟩)
          by_cases hjm : j < m
          · exact hno j hj1 hjm
          · have := t5 (j - 64 * k) (by omega) (by omega)
            rw [show 64 * k + (j - 64 * k) = j by omega] at this
            exact this
        generalize wb B k / 2 ^ q = y at *
        generalize wb B k = x at *
        simp (disch := omega) [-getElem?_pos, if_pos, if_neg, decide_eq_true, decide_eq_false, ir_bitset_Set_Next_l0, e1, e2, hc1, hq, hqr, h5, h7, ↓h9, ↓h10, IntWalk.i64_in]
        refine AFn.pure (TrailingZeros64_spec hg1 hy t1 t2) ?_
        simp (disch := omega) [-getElem?_pos, if_pos, if_neg, decide_eq_true, decide_eq_false, IntWalk.i64_in]
    · simp (disch := omega) [-getElem?_pos, if_pos, if_neg, decide_eq_true, decide_eq_false, ir_bitset_Set_Next_l0, e1, e2, hc1]
      refine hr.unique (.inl ⟨rfl, fun k hk => ?_⟩)
      by_cases hkm : k < m
      · exact hno k hk hkm
      · rw [List.getD_eq_getElem?_getD, List.getElem?_eq_none (by omega)]; rfl
  · rcases he with ⟨rfl, rfl⟩ | ⟨rfl, h4⟩
    · simp (disch := omega) [-getElem?_pos, if_pos, if_neg, decide_eq_true, decide_eq_false, ]
    · simp (disch := omega) [-getElem?_pos, if_pos, if_neg, decide_eq_true, decide_eq_false, h4]
theorem Clone_spec {p : Nat → Prop} {H : AH} {sl : Value} {n : Nat} {cells : List Value} (h : Vw p H 1 sl n cells) (hn : n ≤ 1000000) :
    AFn Tryd.prog F_slices_Clone_Luint64_uint64 [sl] H fun u H' => ∃ S, Own H' T_uint64 1 u n cells S ∧ Keep [] H H' ∧ ∀ b ∈ S, H.next ≤ b := by
  refine AFn.enter mixed ir_slices_Clone_Luint64_uint64_eq (by simp [ir_slices_Clone_Luint64_uint64]) fun hw => ?_
  have hl := h.len
  have main : ∀ (a : Addr) (c : Nat), sl = .slice (some a) n c → wpC Tryd.prog 8 ir_slices_Clone_Luint64_uint64.code (bodyK ir_slices_Clone_Luint64_uint64.results fun u H' => ∃ S, Own H' T_uint64 1 u n cells S ∧ Keep [] H H' ∧ ∀ b ∈ S, H.next ≤ b) (argsEnv 0 [sl]) H := by
    rintro a c rfl
    have helems := (h.kept hw (.alloc (B := .row [] T_uint64 true))).elems
    have ho : Own (H.alloc (.row [] T_uint64 true)) T_uint64 1 (.slice (some ⟨H.next, 0, none⟩) 0 0) 0 [] [H.next] := .inr ⟨H.next, 0, none, 0, [], rfl, rfl, by simp, by simp, by omega, by simp, .inl rfl⟩
    obtain ⟨v', H', S', q1, q2, q3, q4, q5, q6⟩ := ho.append hw.alloc (bytes := 8) hl (by omega) (by omega)
    simp (disch := omega) [-getElem?_pos, if_pos, if_neg, decide_eq_true, decide_eq_false, ir_slices_Clone_Luint64_uint64, helems, q1]
    refine ⟨S', by simpa using q2, ?_, fun b hb => ?_⟩
    · exact ⟨by have := q4.next; simp at this; omega, fun b hb _ => by rw [q4.blk b (by simp; omega) (by simp; omega), AH.alloc_blk_ne (by omega)]⟩
    · rcases q6 b hb with h | h
      · simp at h; omega
      · simp at h; omega
  rcases h.2 with ⟨rfl, a, c, rfl, ha⟩ | ⟨b, off, sp, cap, cs, rfl, h2, h3, h4, h5⟩
  · cases a with
    | some a => exact main a c rfl
    | none =>
      obtain rfl := ha rfl
      have : cells = [] := by simpa using hl
      subst this
      simp (disch := omega) [-getElem?_pos, if_pos, if_neg, decide_eq_true, decide_eq_false, ir_slices_Clone_Luint64_uint64]
      exact ⟨[], .nil, .refl, by simp⟩
  · exact main _ _ rfl
def SetO (H : AH) (v : Value) (n : Nat) (ws : List Nat) (S : List Nat) : Prop := ∃ sl, v = .agg #[.int .i64 n, sl] ∧ Own H T_uint64 1 sl (nw n) (ws.map uv) S ∧ one sl = true
theorem Own.one {H : AH} {elem sz n : Nat} {v : Value} {cells : List Value} {S : List Nat} (h : Own H elem sz v n cells S) : one v = true := (h.vw (p := fun _ => True) fun _ _ => trivial).agg.1
theorem SetO.setB {p : Nat → Prop} {H : AH} {v : Value} {n : Nat} {ws : List Nat} {S : List Nat} (h : SetO H v n ws S) {B : List Bool} (hn : B.length = n) (hB : ws = words B) (h4 : n ≤ 4096) (hp : ∀ b ∈ S, p b) : SetB p H v B := by
  obtain ⟨sl, h1, h2, h3⟩ := h
  subst hB
  subst hn
  exact ⟨sl, h1, h2.vw hp, h4⟩
theorem copied_spec {p : Nat → Prop} {H : AH} {v : Value} {B : List Bool} (h : SetB p H v B) : AFn Tryd.prog F_bitset_Set_copied [v] H fun u H' => ∃ S, SetO H' u B.length (words B) S ∧ Keep [] H H' ∧ ∀ b ∈ S, H.next ≤ b := by
  obtain ⟨sl, rfl, h2, h3⟩ := h
  refine AFn.enter mixed ir_bitset_Set_copied_eq (by simp [ir_bitset_Set_copied]) fun hw => ?_
  simp (disch := omega) [-getElem?_pos, if_pos, if_neg, decide_eq_true, decide_eq_false, ir_bitset_Set_copied, cut]
  have hk1 : Keep [] H ((H.alloc (.row [.int .i64 B.length, sl] T_bitset_Set true)).alloc (.row [.int .i64 0, .slice none 0 0] T_bitset_Set true)) := .new_alloc .alloc
  have hw1 : WF ((H.alloc (.row [.int .i64 B.length, sl] T_bitset_Set true)).alloc (.row [.int .i64 0, .slice none 0 0] T_bitset_Set true)) := hw.alloc.alloc
  refine AFnD.from (Clone_spec (h2.kept hw hk1) (by unfold nw; omega)) fun u H2 w2 ⟨S, h4, k4, hS⟩ => ⟨k4.grow hw1, ?_⟩
  have hb : H2.blk (H.next + 1) = some (.row [.int .i64 0, .slice none 0 0] T_bitset_Set true) := by rw [k4.blk _ (by simp) (by simp)]; simp
  obtain ⟨a, c, rfl⟩ := h4.slice
  simp (disch := omega) [-getElem?_pos, if_pos, if_neg, decide_eq_true, decide_eq_false, writeA, hb, cut]
  refine ⟨S, ⟨_, rfl, h4.keep fun b hbS => AH.set_blk_ne ?_, rfl⟩, .new_set (by omega) (hk1.trans' k4), fun b hbS => ?_⟩
  · have := hS b hbS; simp at this; omega
  · have := hS b hbS; simp at this; omega
theorem With_spec {p : Nat → Prop} {H : AH} {v : Value} {B : List Bool} (h : SetB p H v B) (i : Int) : AFn Tryd.prog F_bitset_Set_With [v, .int .i64 i] H fun u H' => SetB (up p H.next) H' u (setB B i true) ∧ Keep [] H H' := by
  have hB := h
  obtain ⟨sl, rfl, h2, h3⟩ := h
  refine AFn.enter mixed ir_bitset_Set_With_eq (by simp [ir_bitset_Set_With]) fun hw => ?_
  simp (disch := omega) [-getElem?_pos, if_pos, if_neg, decide_eq_true, decide_eq_false, ir_bitset_Set_With, cut]
  generalize hH1 : (H.alloc (.row [.int .i64 B.length, sl] T_bitset_Set true)).alloc (.row [.int .i64 0, .slice none 0 0] T_bitset_Set true) = H1
  have hk1 : Keep [] H H1 := by rw [← hH1]; exact .new_alloc .alloc
  have hw1 : WF H1 := by rw [← hH1]; exact hw.alloc.alloc
  have hn1 : H1.next = H.next + 2 := by rw [← hH1]; simp
  have hc0 : H1.cells H.next = some [.int .i64 B.length, sl] := by rw [← hH1]; simp
  have hb1 : H1.blk (H.next + 1) = some (.row [.int .i64 0, .slice none 0 0] T_bitset_Set true) := by rw [← hH1]; simp
  refine AFn.pure (within_spec h2.agg.1) ?_
  by_cases hi : 0 ≤ i ∧ i < B.length
  · obtain ⟨k, q, hq, hqr, hkr, hr64, hk⟩ := split64 hi
    simp (disch := omega) [-getElem?_pos, if_pos, if_neg, decide_eq_true, decide_eq_false, hi, hc0, cut]
    refine (copied_spec (hB.kept hw hk1)).mono' fun u H2 w2 ⟨S, ⟨sl2, hu, h4, h5⟩, k4, hS⟩ => ?_
    subst hu
    have hb2 : H2.blk (H.next + 1) = some (.row [.int .i64 0, .slice none 0 0] T_bitset_Set true) := by rw [k4.blk _ (by omega) (by simp), hb1]
    have hn2 := k4.next
    obtain ⟨b, off, sp, cap, cs, rfl, rfl, h6, h7, h8, h9⟩ := h4.pos (by omega)
    have h10 : cs[off + k]? = some (uv (wb B k)) := by rw [h9 k (by omega), List.getElem?_map, words_get B k hk]; rfl
    have hbn : b < H2.next := w2.lt h6
    have hbS := hS b (by simp)
    have hlt := wb_lt B k
    have h11 : abin .shl (uv 1) (.int .i64 (q : Int)) = some (uv (2 ^ q)) := uv_shl1 hr64
    have h2q : 2 ^ q < 18446744073709551616 := Nat.pow_lt_pow_right (a := 2) (n := 64) (by omega) hr64
    have h12 : abin .or (uv (wb B k)) (uv (2 ^ q)) = some (uv (wb B k ||| 2 ^ q)) := uv_or hlt h2q
    have hxlt : wb B k ||| 2 ^ q < 18446744073709551616 := or_lt' hlt h2q
    have hws := words_set B i.toNat (wb B k ||| 2 ^ q) true (by omega) hxlt (fun j hj => by
      rw [show i.toNat / 64 = k by omega, show i.toNat % 64 = q by omega, Nat.testBit_or, Nat.testBit_two_pow]
      by_cases hjq : j = q
      · subst hjq; simp
      · simp [hjq, Ne.symm hjq])
    rw [show i.toNat / 64 = k by omega] at hws
    generalize wb B k ||| 2 ^ q = y at *
    generalize 2 ^ q = p at *
    have hw3 := h4.alloc w2 (B := .row [.int .i64 B.length, .slice (some ⟨b, off, sp⟩) (nw B.length) cap] T_bitset_Set true)
    have h6' : (H2.alloc (.row [.int .i64 B.length, .slice (some ⟨b, off, sp⟩) (nw B.length) cap] T_bitset_Set true)).blk b = some (.row cs T_uint64 true) := by rw [AH.alloc_blk_ne (by omega)]; exact h6
    obtain ⟨o1, o2, _⟩ := hw3.write h6' (k := k) (news := [uv y]) (by simp; omega)
    rw [over_one (cells := (words B).map uv) (by rw [List.length_map, words_length]; exact hk), ← List.map_set, hws] at o2
    have hol := (List.getElem?_eq_some_iff.1 h10).1
    simp (disch := omega) [-getElem?_pos, if_pos, if_neg, decide_eq_true, decide_eq_false, hq, hqr, IntWalk.i64_in, h7, h10, ↓h11, ↓h12, h6, cut, writeA, hb2]
    refine ⟨?_, ?_⟩
    · rw [show setB B i true = B.set i.toNat true by unfold setB; rw [if_pos hi]]
      refine ⟨.slice (some ⟨b, off, sp⟩) (nw B.length) cap, by simp, ?_, by simpa using h3⟩
      rw [List.length_set]
      refine (Own.keep o2 (fun b' hb' => AH.set_blk_ne ?_)).vw (fun b' hb' => .inr ?_)
      · simp at hb'; omega
      · simp at hb'; omega
    · exact .new_set (by omega) (.new_set (by omega) (.new_alloc (hk1.trans' k4)))
  · simp (disch := omega) [-getElem?_pos, if_pos, if_neg, decide_eq_true, decide_eq_false, hi, hc0, cut, writeA, hb1]
    refine ⟨?_, .new_set (by omega) hk1⟩
    rw [show setB B i true = B by unfold setB; rw [if_neg hi]]
    exact (hB.kept hw (.new_set (by omega) hk1)).mono fun _ h => .inl h
theorem Without_spec {p : Nat → Prop} {H : AH} {v : Value} {B : List Bool} (h : SetB p H v B) (i : Int) : AFn Tryd.prog F_bitset_Set_Without [v, .int .i64 i] H fun u H' => SetB (up p H.next) H' u (setB B i false) ∧ Keep [] H H' := by
  have hB := h
  obtain ⟨sl, rfl, h2, h3⟩ := h
  refine AFn.enter mixed ir_bitset_Set_Without_eq (by simp [ir_bitset_Set_Without]) fun hw => ?_
  simp (disch := omega) [-getElem?_pos, if_pos, if_neg, decide_eq_true, decide_eq_false, ir_bitset_Set_Without, cut]
  generalize hH1 : (H.alloc (.row [.int .i64 B.length, sl] T_bitset_Set true)).alloc (.row [.int .i64 0, .slice none 0 0] T_bitset_Set true) = H1
  have hk1 : Keep [] H H1 := by rw [← hH1]; exact .new_alloc .alloc
  have hw1 : WF H1 := by rw [← hH1]; exact hw.alloc.alloc
  have hn1 : H1.next = H.next + 2 := by rw [← hH1]; simp
  have hc0 : H1.cells H.next = some [.int .i64 B.length, sl] := by rw [← hH1]; simp
  have hb1 : H1.blk (H.next + 1) = some (.row [.int .i64 0, .slice none 0 0] T_bitset_Set true) := by rw [← hH1]; simp
  refine AFn.pure (within_spec h2.agg.1) ?_
  by_cases hi : 0 ≤ i ∧ i < B.length
  · obtain ⟨k, q, hq, hqr, hkr, hr64, hk⟩ := split64 hi
    simp (disch := omega) [-getElem?_pos, if_pos, if_neg, decide_eq_true, decide_eq_false, hi, hc0, cut]
    refine (copied_spec (hB.kept hw hk1)).mono' fun u H2 w2 ⟨S, ⟨sl2, hu, h4, h5⟩, k4, hS⟩ => ?_
    subst hu
    have hb2 : H2.blk (H.next + 1) = some (.row [.int .i64 0, .slice none 0 0] T_bitset_Set true) := by rw [k4.blk _ (by omega) (by simp), hb1]
    have hn2 := k4.next
    obtain ⟨b, off, sp, cap, cs, rfl, rfl, h6, h7, h8, h9⟩ := h4.pos (by omega)
    have h10 : cs[off + k]? = some (uv (wb B k)) := by rw [h9 k (by omega), List.getElem?_map, words_get B k hk]; rfl
    have hbn : b < H2.next := w2.lt h6
    have hbS := hS b (by simp)
    have hlt := wb_lt B k
    have h11 : abin .shl (uv 1) (.int .i64 (q : Int)) = some (uv (2 ^ q)) := uv_shl1 hr64
    have h2q : 2 ^ q < 18446744073709551616 := Nat.pow_lt_pow_right (a := 2) (n := 64) (by omega) hr64
    have h12 : abin .andNot (uv (wb B k)) (uv (2 ^ q)) = some (uv (andNotN (wb B k) (2 ^ q))) := uv_andNot
    have hxlt : andNotN (wb B k) (2 ^ q) < 18446744073709551616 := andNotN_lt _ _
    have hws := words_set B i.toNat (andNotN (wb B k) (2 ^ q)) false (by omega) hxlt (fun j hj => by
      rw [show i.toNat / 64 = k by omega, show i.toNat % 64 = q by omega, andNotN_bit _ _ _ hj, Nat.testBit_two_pow]
      by_cases hjq : j = q
      · subst hjq; simp
      · simp [hjq, Ne.symm hjq])
    rw [show i.toNat / 64 = k by omega] at hws
    generalize andNotN (wb B k) (2 ^ q) = y at *
    generalize 2 ^ q = p at *
    have hw3 := h4.alloc w2 (B := .row [.int .i64 B.length, .slice (some ⟨b, off, sp⟩) (nw B.length) cap] T_bitset_Set true)
    have h6' : (H2.alloc (.row [.int .i64 B.length, .slice (some ⟨b, off, sp⟩) (nw B.length) cap] T_bitset_Set true)).blk b = some (.row cs T_uint64 true) := by rw [AH.alloc_blk_ne (by omega)]; exact h6
    obtain ⟨o1, o2, _⟩ := hw3.write h6' (k := k) (news := [uv y]) (by simp; omega)
    rw [over_one (cells := (words B).map uv) (by rw [List.length_map, words_length]; exact hk), ← List.map_set, hws] at o2
    have hol := (List.getElem?_eq_some_iff.1 h10).1
    simp (disch := omega) [-getElem?_pos, if_pos, if_neg, decide_eq_true, decide_eq_false, hq, hqr, IntWalk.i64_in, h7, h10, ↓h11, ↓h12, h6, cut, writeA, hb2]
    refine ⟨?_, ?_⟩
    · rw [show setB B i false = B.set i.toNat false by unfold setB; rw [if_pos hi]]
      refine ⟨.slice (some ⟨b, off, sp⟩) (nw B.length) cap, by simp, ?_, by simpa using h3⟩
      rw [List.length_set]
      refine (Own.keep o2 (fun b' hb' => AH.set_blk_ne ?_)).vw (fun b' hb' => .inr ?_)
      · simp at hb'; omega
      · simp at hb'; omega
    · exact .new_set (by omega) (.new_set (by omega) (.new_alloc (hk1.trans' k4)))
  · simp (disch := omega) [-getElem?_pos, if_pos, if_neg, decide_eq_true, decide_eq_false, hi, hc0, cut, writeA, hb1]
    refine ⟨?_, .new_set (by omega) hk1⟩
    rw [show setB B i false = B by unfold setB; rw [if_neg hi]]
    exact (hB.kept hw (.new_set (by omega) hk1)).mono fun _ h => .inl h
def eachB (g : Bool → Bool → Bool) (A B : List Bool) : List Bool := (List.range A.length).map fun i => g (A.getD i false) (B.getD i false)
theorem eachB_length (g : Bool → Bool → Bool) (A B : List Bool) : (eachB g A B).length = A.length := by simp [eachB]
theorem eachB_get (g : Bool → Bool → Bool) (A B : List Bool) (i : Nat) : (eachB g A B).getD i false = if i < A.length then g (A.getD i false) (B.getD i false) else false := by
  unfold eachB
  rw [List.getD_eq_getElem?_getD]
  split
  · rename_i h; simp [h]
  · rename_i h; rw [List.getElem?_eq_none (by simp; omega)]; rfl
structure Bitwise (f : Nat → Nat → Nat) (g : Bool → Bool → Bool) : Prop where
  lt : ∀ a b, a < 18446744073709551616 → b < 18446744073709551616 → f a b < 18446744073709551616
  bit : ∀ a b j, j < 64 → (f a b).testBit j = g (a.testBit j) (b.testBit j)
theorem word_full {f : Nat → Nat → Nat} {g : Bool → Bool → Bool} (hf : Bitwise f g) {A B : List Bool} {k : Nat} (hk : 64 * k + 64 ≤ A.length) : f (wb A k) (wb B k) = wb (eachB g A B) k := by
  refine wb_eq (hf.lt _ _ (wb_lt A k) (wb_lt B k)) fun j hj => ?_
  rw [hf.bit _ _ j hj, eachB_get, if_pos (by omega), wb_bit A k j hj, wb_bit B k j hj]
theorem word_last {f : Nat → Nat → Nat} {g : Bool → Bool → Bool} (hf : Bitwise f g) {A B : List Bool} {k r : Nat} (hk : 64 * k + r = A.length) (hr : r < 64) : f (wb A k) (wb B k) &&& (2 ^ r - 1) = wb (eachB g A B) k := by
  refine wb_eq (and_lt' (hf.lt _ _ (wb_lt A k) (wb_lt B k))) fun j hj => ?_
  rw [Nat.testBit_and, hf.bit _ _ j hj, eachB_get, Nat.testBit_two_pow_sub_one, wb_bit A k j hj, wb_bit B k j hj]
  by_cases h : j < r
  · rw [if_pos (by omega)]; simp [h]
  · rw [if_neg (by omega)]; simp [h]
theorem each_spec {p : Nat → Prop} {H : AH} {v w : Value} {A B : List Bool} {F : Nat} {f : Nat → Nat → Nat} {g : Bool → Bool → Bool} (hA : SetB p H v A) (hB : SetB p H w B) (hgood : goodFunc Tryd.prog F = true) (hf : Bitwise f g)
    (hF : ∀ H a b, a < 18446744073709551616 → b < 18446744073709551616 → AFn Tryd.prog F [uv a, uv b] H fun u H' => u = uv (f a b) ∧ H' = H) :
    AFn Tryd.prog F_bitset_Set_each [v, w, .func (.func F) #[] #[]] H fun u H' => SetB (fun b => H.next ≤ b) H' u (eachB g A B) ∧ Keep [] H H' := by
  obtain ⟨sa, rfl, a2, a3⟩ := id hA
  obtain ⟨sb, rfl, b2, b3⟩ := id hB
  refine AFn.enter mixed ir_bitset_Set_each_eq (by simp [ir_bitset_Set_each]) fun hw => ?_
  simp (disch := omega) [-getElem?_pos, if_pos, if_neg, decide_eq_true, decide_eq_false, ir_bitset_Set_each, cut]
  generalize hH1 : ((H.alloc (.row [.int .i64 A.length, sa] T_bitset_Set true)).alloc (.row [.int .i64 B.length, sb] T_bitset_Set true)).alloc (.row [.int .i64 0, .slice none 0 0] T_bitset_Set true) = H1
  have hk1 : Keep [] H H1 := by rw [← hH1]; exact .new_alloc (.new_alloc .alloc)
  have hw1 : WF H1 := by rw [← hH1]; exact hw.alloc.alloc.alloc
  have hn1 : H1.next = H.next + 3 := by rw [← hH1]; simp
  have hb0 : H1.blk H.next = some (.row [.int .i64 A.length, sa] T_bitset_Set true) := by rw [← hH1]; simp; omega
  have hb1 : H1.blk (H.next + 1) = some (.row [.int .i64 B.length, sb] T_bitset_Set true) := by rw [← hH1]; simp; try omega
  have hb2 : H1.blk (H.next + 2) = some (.row [.int .i64 0, .slice none 0 0] T_bitset_Set true) := by rw [← hH1]; simp; try omega
  refine (copied_spec (hA.kept hw hk1)).mono' fun u H2 w2 ⟨S, ⟨so, hu, o1, o2⟩, k2, hS⟩ => ?_
  subst hu
  have hn2 := k2.next
  obtain ⟨ao, co, rfl⟩ := o1.slice
  have hc0 : H2.blk H.next = some (.row [.int .i64 A.length, sa] T_bitset_Set true) := by rw [k2.blk _ (by omega) (by simp), hb0]
  have hc1 : H2.blk (H.next + 1) = some (.row [.int .i64 B.length, sb] T_bitset_Set true) := by rw [k2.blk _ (by omega) (by simp), hb1]
  have hc2 : H2.blk (H.next + 2) = some (.row [.int .i64 0, .slice none 0 0] T_bitset_Set true) := by rw [k2.blk _ (by omega) (by simp), hb2]
  obtain ⟨aa, ca, rfl⟩ := a2.slice
  simp (disch := omega) [-getElem?_pos, if_pos, if_neg, decide_eq_true, decide_eq_false, cut, writeA, AH.cells_of hc0]
  generalize hH3 : H2.alloc (.row [.int .i64 A.length, .slice ao (nw A.length) co] T_bitset_Set true) = H3
  have hw3 : WF H3 := by rw [← hH3]; exact w2.alloc
  have hk3 : Keep [] H H3 := by rw [← hH3]; exact .new_alloc (hk1.trans' k2)
  have hd0 : H3.blk H.next = some (.row [.int .i64 A.length, .slice aa (nw A.length) ca] T_bitset_Set true) := by rw [← hH3, AH.alloc_blk_ne (by omega), hc0]
  have hd1 : H3.blk (H.next + 1) = some (.row [.int .i64 B.length, sb] T_bitset_Set true) := by rw [← hH3, AH.alloc_blk_ne (by omega), hc1]
  have hd2 : H3.blk (H.next + 2) = some (.row [.int .i64 0, .slice none 0 0] T_bitset_Set true) := by rw [← hH3, AH.alloc_blk_ne (by omega), hc2]
  have hd3 : H3.blk H2.next = some (.row [.int .i64 A.length, .slice ao (nw A.length) co] T_bitset_Set true) := by rw [← hH3]; simp
  have ho3 : Own H3 T_uint64 1 (.slice ao (nw A.length) co) (nw A.length) ((words A).map uv) S := by rw [← hH3]; exact o1.alloc w2
  have hS3 : ∀ b ∈ S, H.next + 3 ≤ b ∧ b < H2.next := fun b hb => ⟨by have := hS b hb; omega, o1.lt w2 b hb⟩
  refine wpC_use (loop_upto (nw A.length) (fun k env H' => WF H' ∧ Keep [] H H' ∧ H'.blk H.next = some (.row [.int .i64 A.length, .slice aa (nw A.length) ca] T_bitset_Set true) ∧ H'.blk (H.next + 1) = some (.row [.int .i64 B.length, sb] T_bitset_Set true) ∧
    H'.blk (H.next + 2) = some (.row [.int .i64 0, .slice none 0 0] T_bitset_Set true) ∧ H'.blk H2.next = some (.row [.int .i64 A.length, .slice ao (nw A.length) co] T_bitset_Set true) ∧
    Own H' T_uint64 1 (.slice ao (nw A.length) co) (nw A.length) ((List.range (nw A.length)).map fun j => uv (if j < k then f (wb A j) (wb B j) else wb A j)) S ∧
    env 2 = some (.func (.func F) #[] #[]) ∧ env 3 = some (.pointer (some ⟨H.next, 0, none⟩)) ∧ env 4 = some (.pointer (some ⟨H.next + 1, 0, none⟩)) ∧ env 6 = some (.pointer (some ⟨H.next + 2, 0, none⟩)) ∧ env 7 = some (.pointer (some ⟨H2.next, 0, none⟩)) ∧
    env 14 = some (.slice aa (nw A.length) ca) ∧ env 15 = some (.int .i64 (nw A.length : Nat)) ∧ env 16 = some (.int .i64 k))
    (Q := fun e env H' => e = .exit 0 ∧ Keep [] H H' ∧ H'.blk H.next = some (.row [.int .i64 A.length, .slice aa (nw A.length) ca] T_bitset_Set true) ∧
    H'.blk (H.next + 2) = some (.row [.int .i64 0, .slice none 0 0] T_bitset_Set true) ∧ H'.blk H2.next = some (.row [.int .i64 A.length, .slice ao (nw A.length) co] T_bitset_Set true) ∧
    Own H' T_uint64 1 (.slice ao (nw A.length) co) (nw A.length) ((List.range (nw A.length)).map fun j => uv (f (wb A j) (wb B j))) S ∧ env 3 = some (.pointer (some ⟨H.next, 0, none⟩)) ∧ env 6 = some (.pointer (some ⟨H.next + 2, 0, none⟩)) ∧ env 7 = some (.pointer (some ⟨H2.next, 0, none⟩)))
    ⟨hw3, hk3, hd0, hd1, hd2, hd3, by simpa [words, Function.comp_def] using ho3, by simp, by simp, by simp, by simp, by simp, by simp, by simp, by simp⟩ ?_) fun e env2 H4 ⟨he, k4, g0, g2, g3, g4, g5, g6, g7⟩ _ => ?_
  · rintro k env H' hk ⟨w', k', d0, d1, d2, d3, o', e2, e3, e4, e6, e7, e14, e15, e16⟩
    have hnn : nw A.length ≤ 65 := by unfold nw; omega
    by_cases hkn : k < nw A.length
    · obtain ⟨b, off, sp, cap, cs, hsl, h5, h6⟩ := words_at (a2.kept hw k') (by omega)
      cases hsl
      have h7 := h6 k hkn
      simp (disch := omega) [-getElem?_pos, if_pos, if_neg, decide_eq_true, decide_eq_false, ir_bitset_Set_each_l0, e2, e3, e4, e7, e14, e15, e16, h5, h7, AH.cells_of d1, AH.cells_of d3, cut]
      refine AFnD.of (word_spec (hB.kept hw k') k) ?_
      simp only [restK_app, put_some]
      simp (disch := omega) [-getElem?_pos, if_pos, if_neg, decide_eq_true, decide_eq_false, e2, e3, e4, e7, e14, e15, e16, ACallD_fn hgood]
      refine AFnD.of (hF _ _ _ (wb_lt A k) (wb_lt B k)) ?_
      obtain ⟨b2, off2, sp2, cap2, cs2, hsl2, rfl, q1, q2, q3, q4⟩ := o'.pos (by omega)
      cases hsl2
      obtain ⟨p1, p2, _⟩ := o'.write q1 (k := k) (news := [uv (f (wb A k) (wb B k))]) (by simp; omega)
      have hS' := hS3 b2 (by simp)
      simp (disch := omega) [-getElem?_pos, if_pos, if_neg, decide_eq_true, decide_eq_false, p1, e2, e3, e4, e6, e7, e14, e15, e16, IntWalk.i64_in]
      refine ⟨hkn, w'.set (w'.lt q1), .new_set (by omega) k', d0, d1, d2, d3, ?_⟩
      rw [over_one (cells := (List.range (nw A.length)).map fun j => uv (if j < k then f (wb A j) (wb B j) else wb A j)) (by simpa using hkn)] at p2
      rw [show ((List.range (nw A.length)).map fun j => uv (if j < k + 1 then f (wb A j) (wb B j) else wb A j)) = ((List.range (nw A.length)).map fun j => uv (if j < k then f (wb A j) (wb B j) else wb A j)).set k (uv (f (wb A k) (wb B k))) from ?_]
      · exact p2
      · apply List.ext_getElem (by simp)
        intro j h1 h2
        simp only [List.getElem_map, List.getElem_range, List.getElem_set]
        by_cases hj : k = j
        · subst hj; simp
        · rw [if_neg hj]
          by_cases hlt : j < k
          · rw [if_pos hlt, if_pos (by omega)]
          · rw [if_neg hlt, if_neg (by omega)]
    · obtain rfl : k = nw A.length := by omega
      simp (disch := omega) [-getElem?_pos, if_pos, if_neg, decide_eq_true, decide_eq_false, ir_bitset_Set_each_l0, e15, e16]
      refine ⟨k', d0, d2, d3, ?_, e3, e6, e7⟩
      rw [show ((List.range (nw A.length)).map fun j => uv (f (wb A j) (wb B j))) = ((List.range (nw A.length)).map fun j => uv (if j < nw A.length then f (wb A j) (wb B j) else wb A j)) from List.map_congr_left fun j hj => by rw [if_pos (by simpa using hj)]]
      exact o'
  · subst he
    have hm := tr64 A.length
    have hEl := eachB_length g A B
    have hg4 := (hS3 · ·)
    by_cases hr : A.length % 64 = 0
    · simp (disch := omega) [-getElem?_pos, if_pos, if_neg, decide_eq_true, decide_eq_false, g5, g6, g7, AH.cells_of g0, AH.cells_of g3, g2, hm, hr, cut, writeA]
      refine ⟨?_, .new_set (by omega) k4⟩
      refine SetO.setB (n := A.length) (ws := (List.range (nw A.length)).map fun j => f (wb A j) (wb B j)) (S := S) ⟨_, rfl, ?_, rfl⟩ hEl ?_ a3 (fun b hb => by have := hS3 b hb; omega)
      · rw [List.map_map]
        exact g4.keep fun b hb => AH.set_blk_ne (by have := hS3 b hb; omega)
      · unfold words
        rw [hEl]
        exact List.map_congr_left fun j hj => word_full hf (by have := List.mem_range.1 hj; unfold nw at this; omega)
    · obtain ⟨n, hn⟩ : ∃ n, nw A.length = n + 1 := ⟨nw A.length - 1, by unfold nw; omega⟩
      have hlast : 64 * n + A.length % 64 = A.length := by unfold nw at hn; omega
      obtain ⟨b2, off2, sp2, cap2, cs2, hsl2, rfl, q1, q2, q3, q4⟩ := g4.pos (by omega)
      cases hsl2
      have hS' := hS3 b2 (by simp)
      have hx := hf.lt _ _ (wb_lt A n) (wb_lt B n)
      have hlw := word_last hf (B := B) hlast (by omega)
      have hcell : cs2[off2 + n]? = some (uv (f (wb A n) (wb B n))) := by rw [q4 n (by omega)]; simp [hn]
      obtain ⟨p1, p2, _⟩ := g4.write q1 (k := n) (news := [uv (wb (eachB g A B) n)]) (by simp; omega)
      obtain ⟨r, hrr⟩ : ∃ r, r = A.length % 64 := ⟨_, rfl⟩
      rw [← hrr] at hm hr hlw
      have hr64 : r < 64 := by omega
      have h2r : 2 ^ r < 18446744073709551616 := Nat.pow_lt_pow_right (a := 2) (n := 64) (by omega) hr64
      have h2p : 1 ≤ 2 ^ r := Nat.one_le_two_pow
      have s1 : abin .shl (uv 1) (.int .i64 (r : Int)) = some (uv (2 ^ r)) := uv_shl1 hr64
      have s2 : abin .sub (uv (2 ^ r)) (uv 1) = some (uv (2 ^ r - 1)) := uv_sub h2p h2r
      have s3 : abin .and (uv (f (wb A n) (wb B n))) (uv (2 ^ r - 1)) = some (uv (wb (eachB g A B) n)) := by rw [← hlw]; exact uv_and hx (by omega)
      generalize 2 ^ r - 1 = p1' at *
      generalize 2 ^ r = p0 at *
      have hnn : nw A.length ≤ 65 := by unfold nw; omega
      have hi1 : (nw A.length : Int) - 1 = (n : Int) := by omega
      clear hrr hlast hlw
      have hol := (List.getElem?_eq_some_iff.1 hcell).1
      simp (disch := omega) [-getElem?_pos, if_pos, if_neg, decide_eq_true, decide_eq_false, g5, g6, g7, AH.cells_of g0, AH.cells_of g3, g2, hm, hr, cut, hi1, IntWalk.i64_in, q2, hcell, ↓s1, ↓s2, ↓s3, q1, g2, writeA]
      refine ⟨?_, .new_set (by omega) (.new_set (by omega) k4)⟩
      refine SetO.setB (n := A.length) (ws := ((List.range (nw A.length)).map fun j => f (wb A j) (wb B j)).set n (wb (eachB g A B) n)) (S := [b2]) ⟨_, rfl, ?_, rfl⟩ hEl ?_ a3 (fun b hb => by have := hS3 b hb; omega)
      · rw [over_one (cells := (List.range (nw A.length)).map fun j => uv (f (wb A j) (wb B j))) (by simp; omega)] at p2
        rw [List.map_set, List.map_map]
        exact p2.keep fun b hb => AH.set_blk_ne (by have := hS3 b hb; omega)
      · unfold words
        rw [hEl]
        apply List.ext_getElem (by simp)
        intro j h1 h2
        simp only [List.length_set, List.length_map, List.length_range] at h1
        simp only [List.getElem_map, List.getElem_range, List.getElem_set]
        by_cases hj : n = j
        · subst hj; simp
        · rw [if_neg hj]
          exact word_full hf (by unfold nw at h1 hn; omega)
end Go.Proofs.YtakdkbdjjlmccaaDoor
