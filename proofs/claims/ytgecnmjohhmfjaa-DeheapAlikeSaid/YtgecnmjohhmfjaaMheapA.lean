/-
  Contracts of package mmheap (1): swap, Len, least, ahead.
-/
import Derived.Test.YtgecnmjohhmfjaaMlaw
set_option maxRecDepth 100000
set_option linter.unusedSimpArgs false
set_option linter.unusedVariables false
namespace Go.Proofs.Ytgecnmjohhmfjaa
open Go Go.Abs
def HeapM (H : AH) (q : Nat) (L : List Ent) (S : List Nat) : Prop :=
  ∃ v, H.blk q = some (.row [v] T_mmheap_Heap true) ∧ Own H T_key_Entry 4 v L.length (cellsE L) S ∧ q ∉ S ∧ L.length ≤ 1000000
theorem HeapM.read {H : AH} {q : Nat} {L : List Ent} {S : List Nat} (h : HeapM H q L S) : HeapR H q L := by
  obtain ⟨v, h1, h2, h3, h4⟩ := h
  exact ⟨v, AH.cells_of h1, h2.vw fun _ _ => trivial, h4⟩
theorem HeapM.kept {H H' : AH} {q : Nat} {L : List Ent} {S : List Nat} (h : HeapM H q L S) (hw : WF H) (hk : Keep [] H H') : HeapM H' q L S := by
  obtain ⟨v, h1, h2, h3, h4⟩ := h
  exact ⟨v, by rw [hk.blk q (hw.lt h1) (by simp), h1], h2.kept hw hk (by simp), h3, h4⟩
theorem swap_specM {H : AH} {q : Nat} {L : List Ent} {S : List Nat} (h : HeapM H q L S) {i k : Nat} (hi : i < L.length) (hk : k < L.length) : AFn Try.prog F_mmheap_Heap_swap [.pointer (some ⟨q, 0, none⟩), .int .i64 i, .int .i64 k] H fun u H' => HeapM H' q (swapL L i k) S ∧ Keep S H H' := by
  obtain ⟨v, h1, h2, h3, h4⟩ := id h
  have hr := h.read
  obtain ⟨v', g1, g2, _⟩ := hr
  have hv : v' = v := by rw [AH.cells_of h1] at g1; cases g1; rfl
  subst hv
  obtain ⟨b, off, sp, cap, cs, rfl, rfl, q1, q2, q3, q4⟩ := h2.pos (by omega)
  have hcut := entries_at g2 (by omega)
  obtain ⟨b', off', sp', cap', cs', he, hc', hall⟩ := hcut
  cases he
  rw [q2] at hc'
  cases hc'
  have e1 := hall i hi
  have e2 := hall k hk
  have hbq : b ≠ q := fun hc => h3 (by simp [hc])
  refine AFn.enter mixed ir_mmheap_Heap_swap_eq (by simp [ir_mmheap_Heap_swap]) fun hw => ?_
  have hmi : i * 4 + 4 ≤ L.length * 4 := by omega
  have hmk : k * 4 + 4 ≤ L.length * 4 := by omega
  obtain ⟨p1, p2, _⟩ := h2.write q1 (k := i * 4) (news := L[k].cells) (by simp [Ent.cells]; omega)
  rw [cellsE_set L i L[k] hi] at p2
  have p2' : Own (H.set b (.row (over cs (off + i * 4) L[k].cells) T_key_Entry true)) T_key_Entry 4 (.slice (some ⟨b, off, sp⟩) L.length cap) (L.set i L[k]).length (cellsE (L.set i L[k])) [b] := by rw [List.length_set]; exact p2
  have hq1' : (H.set b (.row (over cs (off + i * 4) L[k].cells) T_key_Entry true)).blk b = some (.row (over cs (off + i * 4) L[k].cells) T_key_Entry true) := AH.set_blk_same
  obtain ⟨p3, p4, _⟩ := p2.write hq1' (k := k * 4) (news := L[i].cells) (by simp [Ent.cells]; omega)
  rw [cellsE_set (L.set i L[k]) k L[i] (by simpa using hk)] at p4
  have hsw : swapL L i k = (L.set i L[k]).set k L[i] := by unfold swapL; rw [List.getElem?_eq_getElem hi, List.getElem?_eq_getElem hk]
  have hlen := swapL_length L i k
  rw [← hsw] at p4
  generalize L[i] = x at *
  generalize L[k] = y at *
  have lx : x.cells.length = 4 := rfl
  have ly : y.cells.length = 4 := rfl
  simp (disch := omega) [-getElem?_pos, if_pos, if_neg, decide_eq_true, decide_eq_false, ir_mmheap_Heap_swap, AH.cells_of h1, q2, e1, e2, lx, ly, p1, p3]
  rw [AH.set_set] at p4
  refine ⟨⟨_, ?_, by rw [hlen]; exact p4, h3, by omega⟩, ?_⟩
  · rw [AH.set_blk_ne (Ne.symm hbq)]; exact h1
  · rw [← AH.set_set (B := .row (over cs (off + i * 4) y.cells) T_key_Entry true)]
    exact (Keep.set (by simp)).trans' (Keep.set (by simp))
theorem Len_specM {H : AH} {q : Nat} {L : List Ent} (h : HeapR H q L) : AFn Try.prog F_mmheap_Heap_Len [.pointer (some ⟨q, 0, none⟩)] H fun u H' => u = .int .i64 L.length ∧ H' = H := by
  obtain ⟨v, h1, h2, h3⟩ := h
  obtain ⟨a, c, rfl⟩ := h2.slice
  refine AFn.enter mixed ir_mmheap_Heap_Len_eq (by simp [ir_mmheap_Heap_Len]) fun hw => ?_
  simp (disch := omega) [-getElem?_pos, if_pos, if_neg, decide_eq_true, decide_eq_false, ir_mmheap_Heap_Len, h1]
def bl (n : Nat) : Nat := if n = 0 then 0 else n.log2 + 1
theorem bl_half {n : Nat} (h : 0 < n) : bl n = bl (n / 2) + 1 := by
  unfold bl
  rw [if_neg (by omega)]
  by_cases h1 : n = 1
  · subst h1; decide
  · rw [if_neg (by omega), Nat.log2_def, if_pos (by omega)]
theorem bl_shift : ∀ (k n : Nat), 2 ^ k ≤ n → bl n = bl (n / 2 ^ k) + k
  | 0, n, _ => by simp
  | k + 1, n, h => by
    have h2 : 2 ^ (k + 1) = 2 ^ k * 2 := Nat.pow_succ 2 k
    have h3 : 2 ^ k ≤ n := by have : 0 < 2 ^ k := Nat.pow_pos (by omega); omega
    rw [bl_shift k n h3, bl_half (n := n / 2 ^ k) (Nat.div_pos h3 (Nat.pow_pos (by omega))), Nat.div_div_eq_div_mul, ← h2]
    omega
theorem parB_bl : ∀ (i : Nat), parB i = decide (bl (i + 1) % 2 = 1) := by
  intro i
  induction i using Nat.strongRecOn with
  | ind i ih =>
    by_cases h0 : i = 0
    · subst h0; rw [parB_zero]; decide
    · rw [parB_pos (by omega), ih _ (by omega), bl_half (n := i + 1) (by omega), show (i + 1) / 2 = (i - 1) / 2 + 1 by omega]
      generalize bl ((i - 1) / 2 + 1) = m
      by_cases hm : m % 2 = 1
      · rw [decide_eq_true hm, decide_eq_false (by omega)]; rfl
      · rw [decide_eq_false hm, decide_eq_true (by omega)]; rfl
theorem len8 : ∀ t, t < 256 → (str_0[t]?).map UInt8.toNat = some (bl t) := by decide +kernel
theorem len8_get {t : Nat} (h : t < 256) : ∃ b : UInt8, str_0[t]? = some b ∧ b.toNat = bl t := by
  have := len8 t h
  cases hb : str_0[t]? with
  | none => rw [hb] at this; cases this
  | some b => rw [hb] at this; exact ⟨b, rfl, by simpa using this⟩
theorem bl_lt {t : Nat} (h : t < 256) : bl t ≤ 8 := by
  have : ∀ t, t < 256 → bl t ≤ 8 := by decide +kernel
  exact this t h
theorem bits_Len64_spec {H : AH} {x : Nat} (hx : x < 1048576) : AFn Try.prog F_bits_Len64 [uv x] H fun u H' => u = .int .i64 (bl x) ∧ H' = H := by
  refine AFn.enter mixed ir_bits_Len64_eq (by simp [ir_bits_Len64]) fun hw => ?_
  have c0 : abin .geq (uv x) (uv 4294967296) = some (.bool false) := by rw [uv_geq, decide_eq_false (by omega)]
  have conv8 : ∀ y : Nat, y < 256 → IntKind.u8.wrap ((y : Nat) : Int) = (y : Int) := fun y hy => by simp [IntKind.wrap, IntKind.bits, IntKind.signed]; omega
  by_cases h1 : 65536 ≤ x
  · have c1 : abin .geq (uv x) (uv 65536) = some (.bool true) := by rw [uv_geq, decide_eq_true (by omega)]
    have s1 : abin .shr (uv x) (uv 16) = some (uv (x / 65536)) := uv_shr (n := 16) (by omega)
    have hb := bl_shift 16 x (by omega)
    have hlt : x / 65536 < 256 := by omega
    rw [show (2 : Nat) ^ 16 = 65536 by rfl] at hb
    generalize x / 65536 = y at *
    have c2 : abin .geq (uv y) (uv 256) = some (.bool false) := by rw [uv_geq, decide_eq_false (by omega)]
    obtain ⟨b, hb1, hb2⟩ := len8_get hlt
    have := bl_lt hlt
    rw [hb]
    generalize bl y = r at *
    simp (disch := omega) [-getElem?_pos, ir_bits_Len64, ↓c0, ↓c1, ↓s1, ↓c2]
    simp only [uv_def]
    simp (disch := omega) [-getElem?_pos, conv8, hb1, hb2, IntWalk.i64_in]
    omega
  · have c1 : abin .geq (uv x) (uv 65536) = some (.bool false) := by rw [uv_geq, decide_eq_false (by omega)]
    by_cases h2 : 256 ≤ x
    · have c2 : abin .geq (uv x) (uv 256) = some (.bool true) := by rw [uv_geq, decide_eq_true (by omega)]
      have s1 : abin .shr (uv x) (uv 8) = some (uv (x / 256)) := uv_shr (n := 8) (by omega)
      have hb := bl_shift 8 x (by omega)
      have hlt : x / 256 < 256 := by omega
      rw [show (2 : Nat) ^ 8 = 256 by rfl] at hb
      generalize x / 256 = y at *
      obtain ⟨b, hb1, hb2⟩ := len8_get hlt
      have := bl_lt hlt
      rw [hb]
      generalize bl y = r at *
      simp (disch := omega) [-getElem?_pos, ir_bits_Len64, ↓c0, ↓c1, ↓s1, ↓c2]
      simp only [uv_def]
      simp (disch := omega) [-getElem?_pos, conv8, hb1, hb2, IntWalk.i64_in]
      omega
    · have c2 : abin .geq (uv x) (uv 256) = some (.bool false) := by rw [uv_geq, decide_eq_false (by omega)]
      obtain ⟨b, hb1, hb2⟩ := len8_get (show x < 256 by omega)
      have := bl_lt (show x < 256 by omega)
      generalize bl x = r at *
      simp (disch := omega) [-getElem?_pos, ir_bits_Len64, ↓c0, ↓c1, ↓c2]
      simp only [uv_def]
      simp (disch := omega) [-getElem?_pos, conv8, hb1, hb2, IntWalk.i64_in]
theorem bits_Len_spec {H : AH} {x : Nat} (hx : x < 1048576) : AFn Try.prog F_bits_Len [uv x] H fun u H' => u = .int .i64 (bl x) ∧ H' = H := by
  refine AFn.enter mixed ir_bits_Len_eq (by simp [ir_bits_Len]) fun hw => ?_
  simp (disch := omega) [-getElem?_pos, if_pos, if_neg, decide_eq_true, decide_eq_false, ir_bits_Len]
  refine AFn.pure (bits_Len64_spec hx) ?_
  simp (disch := omega) [-getElem?_pos, if_pos, if_neg, decide_eq_true, decide_eq_false, ]
theorem least_spec {H : AH} {i : Nat} (hi : i < 1000000) : AFn Try.prog F_mmheap_least [.int .i64 i] H fun u H' => u = .bool (parB i) ∧ H' = H := by
  refine AFn.enter mixed ir_mmheap_least_eq (by simp [ir_mmheap_least]) fun hw => ?_
  rw [parB_bl]
  have e : (i : Int) + 1 = ((i + 1 : Nat) : Int) := by omega
  have e2 : IntKind.u64.wrap ((i + 1 : Nat) : Int) = ((i + 1 : Nat) : Int) := by simp [IntKind.wrap, IntKind.bits, IntKind.signed]; omega
  have e3 : ∀ n : Nat, (Value.int .u64 (n : Int)) = uv n := fun n => (uv_def n).symm
  have hb : bl (i + 1) < 1000 := by
    have : bl (i + 1) ≤ 20 := by
      unfold bl
      split
      · omega
      · have := Nat.log2_lt (n := i + 1) (k := 20) (by omega) |>.2 (by omega)
        omega
    omega
  have t2 : ((bl (i + 1) : Nat) : Int).tmod 2 = ((bl (i + 1) % 2 : Nat) : Int) := by rw [Int.tmod_eq_emod_of_nonneg (by omega)]; norm_cast
  have hz : bl (i + 1) % 2 = 0 ∨ bl (i + 1) % 2 = 1 := by omega
  have hs := bits_Len_spec (H := H) (x := i + 1) (by omega)
  generalize i + 1 = m at *
  generalize bl m = r at *
  simp (disch := omega) [-getElem?_pos, if_pos, if_neg, decide_eq_true, decide_eq_false, ir_mmheap_least, e, IntWalk.i64_in, e2, e3]
  refine AFn.pure hs ?_
  rcases hz with hz | hz <;> rw [hz] at t2 ⊢ <;> simp (disch := omega) [-getElem?_pos, if_pos, if_neg, decide_eq_true, decide_eq_false, t2]
theorem ahead_spec {H : AH} {q : Nat} {L : List Ent} (h : HeapR H q L) {i k : Nat} (hi : i < L.length) (hk : k < L.length) (s : Bool) : AFn Try.prog F_mmheap_Heap_ahead [.pointer (some ⟨q, 0, none⟩), .int .i64 i, .int .i64 k, .bool s] H fun u H' => u = .bool (aheadL L i k s) ∧ H' = H := by
  refine AFn.calm (fun H0 hs => ?_) rfl
  obtain ⟨v, h1, h2, h3⟩ := h.same hs
  obtain ⟨b, off, sp, cap, cs, rfl, h4, h5⟩ := entries_at h2 (by omega)
  have g1 := h5 i hi
  have g2 := h5 k hk
  refine AFn.enter mixed ir_mmheap_Heap_ahead_eq (by simp [ir_mmheap_Heap_ahead]) fun hw => ?_
  unfold aheadL
  rw [ltAt_eq hi hk, ltAt_eq hk hi]
  generalize L[i] = x at *
  generalize L[k] = y at *
  cases s with
  | true =>
    simp (disch := omega) [-getElem?_pos, if_pos, if_neg, decide_eq_true, decide_eq_false, ir_mmheap_Heap_ahead, h1, h4, g1, g2]
    refine AFnD.of (Less_spec x y) ?_
    simp (disch := omega) [-getElem?_pos, if_pos, if_neg, decide_eq_true, decide_eq_false, ]
  | false =>
    simp (disch := omega) [-getElem?_pos, if_pos, if_neg, decide_eq_true, decide_eq_false, ir_mmheap_Heap_ahead, h1, h4, g1, g2]
    refine AFnD.of (Less_spec y x) ?_
    simp (disch := omega) [-getElem?_pos, if_pos, if_neg, decide_eq_true, decide_eq_false, ]
end Go.Proofs.Ytgecnmjohhmfjaa
/-
  Contracts of package mmheap (2): rise, up, below, down, last.
-/
set_option maxRecDepth 100000
set_option linter.unusedSimpArgs false
set_option linter.unusedVariables false
namespace Go.Proofs.Ytgecnmjohhmfjaa
open Go Go.Abs
def RiseMI (H : AH) (q : Nat) (s : Bool) (L0 : List Ent) (S : List Nat) (i0 : Nat) (j : Nat) (env : Env) (H' : AH) : Prop :=
  env 0 = some (.pointer (some ⟨q, 0, none⟩)) ∧ env 2 = some (.bool s) ∧ env 1 = some (.int .i64 (j : Nat)) ∧ WF H' ∧ Keep S H H' ∧ ∃ L, j < L.length ∧ HeapM H' q L S ∧ riseM s i0 L0 = riseM s j L
def HeapMQ (H : AH) (q : Nat) (R : List Ent) (S : List Nat) (l : Nat) (ex : AExit) (env : Env) (H' : AH) : Prop := (ex = .exit l ∨ ex = .ret) ∧ HeapM H' q R S ∧ Keep S H H'
theorem rise_specM {H : AH} {q : Nat} {L : List Ent} {S : List Nat} (h : HeapM H q L S) {i : Nat} (hi : i < L.length) (s : Bool) : AFn Try.prog F_mmheap_Heap_rise [.pointer (some ⟨q, 0, none⟩), .int .i64 i, .bool s] H fun u H' => HeapM H' q (riseM s i L) S ∧ Keep S H H' := by
  refine AFn.enter mixed ir_mmheap_Heap_rise_eq (by simp [ir_mmheap_Heap_rise]) fun hw => ?_
  simp (disch := omega) [-getElem?_pos, if_pos, if_neg, decide_eq_true, decide_eq_false, ir_mmheap_Heap_rise]
  refine wpC_use (loop_rule (RiseMI H q s L S i) (Q := HeapMQ H q (riseM s i L) S 0) ?_ (j := i) ⟨by simp, by simp, by simp, hw, .refl, L, hi, h, rfl⟩) fun ex env2 H2 ⟨hex, hq⟩ _ => ?_
  · rintro j env H' ⟨e0, e2, e1, w', k', M, hj, hM, hU⟩
    have hMl : M.length ≤ 1000000 := by obtain ⟨_, _, _, _, h4⟩ := hM; exact h4
    by_cases h2 : 2 < j
    · obtain ⟨up, hup⟩ : ∃ up, up = ((j - 1) / 2 - 1) / 2 := ⟨_, rfl⟩
      have hlt : up < j := by omega
      rw [riseM.eq_def s j M, dif_pos h2, ← hup] at hU
      have t1 : (j : Int) - 1 = ((j - 1 : Nat) : Int) := by omega
      have t2 : ((j - 1 : Nat) : Int).tdiv 2 = (((j - 1) / 2 : Nat) : Int) := by rw [Int.tdiv_eq_ediv_of_nonneg (by omega)]; norm_cast
      have t3 : (((j - 1) / 2 : Nat) : Int) - 1 = (((j - 1) / 2 - 1 : Nat) : Int) := by omega
      have t4 : (((j - 1) / 2 - 1 : Nat) : Int).tdiv 2 = (up : Int) := by rw [Int.tdiv_eq_ediv_of_nonneg (by omega), hup]; norm_cast
      have b1 : j - 1 < 1000000 ∧ (j - 1) / 2 < 1000000 ∧ (j - 1) / 2 - 1 < 1000000 := by omega
      clear hup
      generalize (j - 1) / 2 - 1 = x3 at *
      generalize (j - 1) / 2 = x2 at *
      generalize j - 1 = x1 at *
      simp (disch := omega) [-getElem?_pos, if_pos, if_neg, decide_eq_true, decide_eq_false, ir_mmheap_Heap_rise_l0, e0, e1, e2, t1, t2, t3, t4, IntWalk.i64_in, show (2:Int) < (j:Int) by omega]
      refine AFn.pure (ahead_spec hM.read hj (show up < M.length by omega) s) ?_
      cases hx : aheadL M j up s with
      | false =>
        rw [hx] at hU
        simp (disch := omega) [-getElem?_pos, if_pos, if_neg, decide_eq_true, decide_eq_false, e0, e1, e2]
        exact ⟨.inr rfl, by rw [hU]; exact hM, k'⟩
      | true =>
        rw [hx] at hU
        simp (disch := omega) [-getElem?_pos, if_pos, if_neg, decide_eq_true, decide_eq_false, e0, e1, e2]
        refine (swap_specM hM hj (show up < M.length by omega)).mono' fun u H3 w3 ⟨h3, k3⟩ => ?_
        simp (disch := omega) [-getElem?_pos, if_pos, if_neg, decide_eq_true, decide_eq_false, e0, e1, e2]
        exact ⟨up, hlt, by simp [e0], by simp [e2], by simp, w3, k'.trans' k3, _, by rw [swapL_length]; omega, h3, hU⟩
    · rw [riseM.eq_def s j M, dif_neg h2] at hU
      simp (disch := omega) [-getElem?_pos, if_pos, if_neg, decide_eq_true, decide_eq_false, ir_mmheap_Heap_rise_l0, e1, show ¬ (2:Int) < (j:Int) by omega]
      exact ⟨.inl rfl, by rw [hU]; exact hM, k'⟩
  · rcases hex with rfl | rfl
    · simp (disch := omega) [-getElem?_pos, if_pos, if_neg, decide_eq_true, decide_eq_false, ]
      exact hq
    · simp (disch := omega) [-getElem?_pos, if_pos, if_neg, decide_eq_true, decide_eq_false, ]
      exact hq
theorem up_specM {H : AH} {q : Nat} {L : List Ent} {S : List Nat} (h : HeapM H q L S) {i : Nat} (hi : i < L.length) : AFn Try.prog F_mmheap_Heap_up [.pointer (some ⟨q, 0, none⟩), .int .i64 i] H fun u H' => HeapM H' q (upM i L) S ∧ Keep S H H' := by
  have hMl : L.length ≤ 1000000 := by obtain ⟨_, _, _, _, h4⟩ := h; exact h4
  refine AFn.enter mixed ir_mmheap_Heap_up_eq (by simp [ir_mmheap_Heap_up]) fun hw => ?_
  unfold upM
  by_cases h0 : i = 0
  · subst h0
    simp (disch := omega) [-getElem?_pos, if_pos, if_neg, decide_eq_true, decide_eq_false, ir_mmheap_Heap_up]
    exact ⟨h, .refl⟩
  · obtain ⟨p, hp⟩ : ∃ p, p = (i - 1) / 2 := ⟨_, rfl⟩
    have hpl : p < L.length := by omega
    have t1 : (i : Int) - 1 = ((i - 1 : Nat) : Int) := by omega
    have t2 : ((i - 1 : Nat) : Int).tdiv 2 = (p : Int) := by rw [Int.tdiv_eq_ediv_of_nonneg (by omega), hp]; norm_cast
    have b1 : i - 1 < 1000000 := by omega
    rw [if_neg h0, ← hp]
    clear hp
    generalize i - 1 = x1 at *
    simp (disch := omega) [-getElem?_pos, if_pos, if_neg, decide_eq_true, decide_eq_false, ir_mmheap_Heap_up, h0, show ¬ ((i:Int) = 0) by omega]
    refine AFn.pure (least_spec (by omega)) ?_
    simp (disch := omega) [-getElem?_pos, if_pos, if_neg, decide_eq_true, decide_eq_false, t1, t2, IntWalk.i64_in]
    refine AFn.pure (ahead_spec h.read hpl hi _) ?_
    cases hx : aheadL L p i (parB i) with
    | true =>
      simp (disch := omega) [-getElem?_pos, if_pos, if_neg, decide_eq_true, decide_eq_false, ]
      refine (swap_specM h hi hpl).mono' fun u H3 w3 ⟨h3, k3⟩ => ?_
      simp (disch := omega) [-getElem?_pos, if_pos, if_neg, decide_eq_true, decide_eq_false, ]
      refine (rise_specM h3 (show p < (swapL L i p).length by rw [swapL_length]; exact hpl) _).mono' fun u H4 w4 ⟨h4, k4⟩ => ?_
      simp (disch := omega) [-getElem?_pos, if_pos, if_neg, decide_eq_true, decide_eq_false, ]
      exact ⟨h4, k3.trans' k4⟩
    | false =>
      simp (disch := omega) [-getElem?_pos, if_pos, if_neg, decide_eq_true, decide_eq_false, ]
      refine (rise_specM h hi _).mono' fun u H4 w4 ⟨h4, k4⟩ => ?_
      simp (disch := omega) [-getElem?_pos, if_pos, if_neg, decide_eq_true, decide_eq_false, ]
      exact ⟨h4, k4⟩
def BelowI (H : AH) (q : Nat) (s : Bool) (L : List Ent) (i : Nat) (A : Array Value) (j : Nat) (env : Env) (H' : AH) : Prop :=
  env 0 = some (.pointer (some ⟨q, 0, none⟩)) ∧ env 2 = some (.bool s) ∧ env 7 = some (.int .i64 (bestM L i s j : Nat)) ∧ env 28 = some (.agg A) ∧ env 29 = some (.int .i64 (j : Nat)) ∧ H' = H
def BelowQ (H : AH) (r : Nat) (ex : AExit) (env : Env) (H' : AH) : Prop := ex = .exit 0 ∧ env 7 = some (.int .i64 (r : Nat)) ∧ H' = H
theorem below_spec {H : AH} {q : Nat} {L : List Ent} (h : HeapR H q L) {i : Nat} (hi : i < 1000000) (s : Bool) : AFn Try.prog F_mmheap_Heap_below [.pointer (some ⟨q, 0, none⟩), .int .i64 i, .bool s] H fun u H' => u = .int .i64 (bestM L i s 6 : Nat) ∧ H' = H := by
  have hln := h.len
  refine AFn.enter mixed ir_mmheap_Heap_below_eq (by simp [ir_mmheap_Heap_below]) fun hw => ?_
  simp (disch := omega) [-getElem?_pos, if_pos, if_neg, decide_eq_true, decide_eq_false, ir_mmheap_Heap_below, IntWalk.i64_in]
  obtain ⟨A, hA⟩ : ∃ A, A = #[Value.int .i64 (2 * (i : Int) + 1), Value.int .i64 (2 * (i : Int) + 2), Value.int .i64 (4 * (i : Int) + 3), Value.int .i64 (4 * (i : Int) + 4), Value.int .i64 (4 * (i : Int) + 5), Value.int .i64 (4 * (i : Int) + 6)] := ⟨_, rfl⟩
  have hAg : ∀ j, j < 6 → A[j]? = some (.int .i64 (descN i j : Nat)) := by
    intro j hj
    rw [hA]
    have hc : j = 0 ∨ j = 1 ∨ j = 2 ∨ j = 3 ∨ j = 4 ∨ j = 5 := by omega
    rcases hc with rfl | rfl | rfl | rfl | rfl | rfl <;> simp [descN] <;> omega
  rw [← hA]
  clear hA
  obtain ⟨v, h1, h2, h3⟩ := id h
  obtain ⟨a, c, rfl⟩ := h2.slice
  refine wpC_use (loop_upto 6 (BelowI H q s L i A) (Q := BelowQ H (bestM L i s 6)) ⟨by simp, by simp, by simp [bestM], by simp, by simp, rfl⟩ ?_) fun ex env2 H2 ⟨hex, f7, hH⟩ _ => ?_
  · rintro j env H' hj ⟨e0, e2, e7, e28, e29, rfl⟩
    by_cases hj6 : j < 6
    · have hg := hAg j hj6
      have hstep : bestM L i s (j + 1) = if descN i j < L.length ∧ (bestM L i s j = 0 ∨ aheadL L (descN i j) (bestM L i s j) s = true) then descN i j else bestM L i s j := rfl
      have hbl := @bestM_lt L i s j
      generalize descN i j = c at *
      generalize bestM L i s j = b at *
      by_cases hc : c < L.length
      · by_cases hb : b = 0
        · subst hb
          rw [if_pos ⟨hc, .inl rfl⟩] at hstep
          simp (disch := omega) [-getElem?_pos, if_pos, if_neg, decide_eq_true, decide_eq_false, ir_mmheap_Heap_below_l0, e0, e2, e7, e28, e29, hg, h1, IntWalk.i64_in, show (c:Int) < (L.length:Int) by omega, show (j:Int) < 6 by omega]
          exact ⟨hj6, by simp [e0], by simp [e2], by simp [hstep], by simp [e28], by simp, rfl⟩
        · have hbl' := hbl hb
          simp (disch := omega) [-getElem?_pos, if_pos, if_neg, decide_eq_true, decide_eq_false, ir_mmheap_Heap_below_l0, e0, e2, e7, e28, e29, hg, h1, hb, IntWalk.i64_in, show (c:Int) < (L.length:Int) by omega, show (j:Int) < 6 by omega, show ¬ ((b:Int) = 0) by omega]
          refine AFn.pure (ahead_spec h hc hbl'.1 s) ?_
          cases hx : aheadL L c b s with
          | true =>
            rw [if_pos ⟨hc, .inr hx⟩] at hstep
            simp (disch := omega) [-getElem?_pos, if_pos, if_neg, decide_eq_true, decide_eq_false, e0, e2, e7, e28, e29, IntWalk.i64_in]
            exact ⟨hj6, by simp [e0], by simp [e2], by simp [hstep], by simp [e28], by simp, rfl⟩
          | false =>
            rw [if_neg (by rintro ⟨_, q1 | q1⟩; exact hb q1; rw [hx] at q1; cases q1)] at hstep
            simp (disch := omega) [-getElem?_pos, if_pos, if_neg, decide_eq_true, decide_eq_false, e0, e2, e7, e28, e29, IntWalk.i64_in]
            exact ⟨hj6, by simp [e0], by simp [e2], by simp [hstep, e7], by simp [e28], by simp, rfl⟩
      · rw [if_neg (fun q1 => hc q1.1)] at hstep
        simp (disch := omega) [-getElem?_pos, if_pos, if_neg, decide_eq_true, decide_eq_false, ir_mmheap_Heap_below_l0, e0, e2, e7, e28, e29, hg, h1, IntWalk.i64_in, show ¬ (c:Int) < (L.length:Int) by omega, show (j:Int) < 6 by omega]
        exact ⟨hj6, by simp [e0], by simp [e2], by simp [hstep, e7], by simp [e28], by simp, rfl⟩
    · obtain rfl : j = 6 := by omega
      simp (disch := omega) [-getElem?_pos, if_pos, if_neg, decide_eq_true, decide_eq_false, ir_mmheap_Heap_below_l0, e29]
      exact ⟨rfl, e7, rfl⟩
  · subst hex hH
    simp (disch := omega) [-getElem?_pos, if_pos, if_neg, decide_eq_true, decide_eq_false, f7]
def DownMI (H : AH) (q : Nat) (s : Bool) (L0 : List Ent) (S : List Nat) (i0 : Nat) (m : Nat) (env : Env) (H' : AH) : Prop :=
  ∃ i L, m = L.length - i ∧ env 0 = some (.pointer (some ⟨q, 0, none⟩)) ∧ env 4 = some (.bool s) ∧ env 1 = some (.int .i64 (i : Nat)) ∧ WF H' ∧ Keep S H H' ∧ i < L.length ∧ HeapM H' q L S ∧ downM s i0 L0 = downM s i L
theorem down_specM {H : AH} {q : Nat} {L : List Ent} {S : List Nat} (h : HeapM H q L S) {i : Nat} (hi : i < L.length) : AFn Try.prog F_mmheap_Heap_down [.pointer (some ⟨q, 0, none⟩), .int .i64 i] H fun u H' => HeapM H' q (downM (parB i) i L) S ∧ Keep S H H' := by
  have hMl : L.length ≤ 1000000 := by obtain ⟨_, _, _, _, h4⟩ := h; exact h4
  refine AFn.enter mixed ir_mmheap_Heap_down_eq (by simp [ir_mmheap_Heap_down]) fun hw => ?_
  simp (disch := omega) [-getElem?_pos, if_pos, if_neg, decide_eq_true, decide_eq_false, ir_mmheap_Heap_down]
  refine AFn.pure (least_spec (by omega)) ?_
  generalize parB i = s
  simp (disch := omega) [-getElem?_pos, if_pos, if_neg, decide_eq_true, decide_eq_false, ]
  refine wpC_use (loop_rule (DownMI H q s L S i) (Q := HeapMQ H q (downM s i L) S 0) ?_ (j := L.length - i) ⟨i, L, rfl, by simp, by simp, by simp, hw, .refl, hi, h, rfl⟩) fun ex env2 H2 ⟨hex, hq⟩ _ => ?_
  · rintro m env H1 ⟨i1, M, hm, e0, e4, e1, w1, k1, hi1, hM, hU⟩
    have hMl : M.length ≤ 1000000 := by obtain ⟨_, _, _, _, h4⟩ := hM; exact h4
    rw [downM.eq_def s i1 M] at hU
    simp (disch := omega) [-getElem?_pos, if_pos, if_neg, decide_eq_true, decide_eq_false, ir_mmheap_Heap_down_l0, e0, e1, e4]
    refine AFn.pure (below_spec hM.read (by omega) s) ?_
    have hbl := @bestM_lt M i1 s 6
    generalize bestM M i1 s 6 = k at *
    by_cases hk : k = 0
    · subst hk
      rw [dif_neg (fun q1 => q1.1 rfl)] at hU
      simp (disch := omega) [-getElem?_pos, if_pos, if_neg, decide_eq_true, decide_eq_false, e0, e1, e4]
      exact ⟨.inr rfl, by rw [hU]; exact hM, k1⟩
    · obtain ⟨hkl, hki⟩ := hbl hk
      simp (disch := omega) [-getElem?_pos, if_pos, if_neg, decide_eq_true, decide_eq_false, e0, e1, e4, hk, show ¬ ((k:Int) = 0) by omega]
      refine AFn.pure (ahead_spec hM.read hkl hi1 s) ?_
      cases hx : aheadL M k i1 s with
      | false =>
        rw [dif_neg (fun q1 => by rw [hx] at q1; cases q1.2)] at hU
        simp (disch := omega) [-getElem?_pos, if_pos, if_neg, decide_eq_true, decide_eq_false, e0, e1, e4]
        exact ⟨.inr rfl, by rw [hU]; exact hM, k1⟩
      | true =>
        rw [dif_pos ⟨hk, hx⟩] at hU
        simp (disch := omega) [-getElem?_pos, if_pos, if_neg, decide_eq_true, decide_eq_false, e0, e1, e4]
        refine (swap_specM hM hkl hi1).mono' fun u H3 w3 ⟨h3, k3⟩ => ?_
        have hN : (swapL M k i1).length = M.length := swapL_length _ _ _
        generalize swapL M k i1 = N at *
        by_cases hle : k ≤ 2 * i1 + 2
        · rw [if_pos hle] at hU
          simp (disch := omega) [-getElem?_pos, if_pos, if_neg, decide_eq_true, decide_eq_false, e0, e1, e4, IntWalk.i64_in, show (k:Int) ≤ 2 * (i1:Int) + 2 by omega]
          exact ⟨.inr rfl, by rw [hU]; exact h3, k1.trans' k3⟩
        · rw [if_neg hle] at hU
          obtain ⟨p, hp⟩ : ∃ p, p = (k - 1) / 2 := ⟨_, rfl⟩
          have hpl : p < N.length := by omega
          have t1 : (k : Int) - 1 = ((k - 1 : Nat) : Int) := by omega
          have t2 : ((k - 1 : Nat) : Int).tdiv 2 = (p : Int) := by rw [Int.tdiv_eq_ediv_of_nonneg (by omega), hp]; norm_cast
          have b1 : k - 1 < 1000000 := by omega
          rw [← hp] at hU
          clear hp
          generalize k - 1 = x1 at *
          simp (disch := omega) [-getElem?_pos, if_pos, if_neg, decide_eq_true, decide_eq_false, e0, e1, e4, t1, t2, IntWalk.i64_in, show ¬ (k:Int) ≤ 2 * (i1:Int) + 2 by omega]
          refine AFn.pure (ahead_spec h3.read hpl (show k < N.length by omega) s) ?_
          cases hy : aheadL N p k s with
          | true =>
            rw [if_pos hy] at hU
            simp (disch := omega) [-getElem?_pos, if_pos, if_neg, decide_eq_true, decide_eq_false, e0, e1, e4]
            refine (swap_specM h3 hpl (show k < N.length by omega)).mono' fun u H4 w4 ⟨h4, k4⟩ => ?_
            simp (disch := omega) [-getElem?_pos, if_pos, if_neg, decide_eq_true, decide_eq_false, e0, e1, e4]
            exact ⟨N.length - k, by omega, k, _, by rw [swapL_length], by simp [e0], by simp [e4], by simp, w4, (k1.trans' k3).trans' k4, by rw [swapL_length]; omega, h4, hU⟩
          | false =>
            rw [if_neg (by rw [hy]; simp)] at hU
            simp (disch := omega) [-getElem?_pos, if_pos, if_neg, decide_eq_true, decide_eq_false, e0, e1, e4]
            exact ⟨N.length - k, by omega, k, N, rfl, by simp [e0], by simp [e4], by simp, w3, k1.trans' k3, by omega, h3, hU⟩
  · rcases hex with rfl | rfl
    · simp (disch := omega) [-getElem?_pos, if_pos, if_neg, decide_eq_true, decide_eq_false, ]
      exact hq
    · simp (disch := omega) [-getElem?_pos, if_pos, if_neg, decide_eq_true, decide_eq_false, ]
      exact hq
theorem last_specM {H : AH} {q : Nat} {L : List Ent} (h : HeapR H q L) (h0 : 0 < L.length) : AFn Try.prog F_mmheap_Heap_last [.pointer (some ⟨q, 0, none⟩)] H fun u H' => u = .int .i64 (lastM L : Nat) ∧ H' = H := by
  have hln := h.len
  obtain ⟨v, h1, h2, h3⟩ := id h
  obtain ⟨a, c, rfl⟩ := h2.slice
  obtain ⟨m, hm⟩ : ∃ m : Nat, m = min 1 (L.length - 1) := ⟨_, rfl⟩
  have hmi : (if (L.length : Int) - 1 < 1 then (L.length : Int) - 1 else 1) = (m : Int) := by split <;> omega
  have hl : lastM L = if 2 < L.length ∧ aheadL L 2 1 false = true then 2 else m := by unfold lastM; rw [hm]
  rw [hl]
  refine AFn.enter mixed ir_mmheap_Heap_last_eq (by simp [ir_mmheap_Heap_last]) fun hw => ?_
  by_cases h2l : 2 < L.length
  · simp (disch := omega) [-getElem?_pos, if_pos, if_neg, decide_eq_true, decide_eq_false, ir_mmheap_Heap_last, h1, hmi, h2l, IntWalk.i64_in, show (2:Int) < (L.length:Int) by omega]
    refine AFn.pure (ahead_spec (i := 2) (k := 1) h h2l (by omega) false) ?_
    cases hx : aheadL L 2 1 false with
    | true => simp (disch := omega) [-getElem?_pos, if_pos, if_neg, decide_eq_true, decide_eq_false, h2l]
    | false =>
      simp (disch := omega) [-getElem?_pos, if_pos, if_neg, decide_eq_true, decide_eq_false, h2l]
      omega
  · simp (disch := omega) [-getElem?_pos, if_pos, if_neg, decide_eq_true, decide_eq_false, ir_mmheap_Heap_last, h1, hmi, h2l, IntWalk.i64_in, show ¬ (2:Int) < (L.length:Int) by omega]
end Go.Proofs.Ytgecnmjohhmfjaa
