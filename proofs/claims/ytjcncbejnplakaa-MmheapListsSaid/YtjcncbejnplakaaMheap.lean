/-
  Contracts of package mmheap (1): swap, Len, least, ahead.
-/
import Derived.Test.YtjcncbejnplakaaMlaw
set_option maxRecDepth 100000
set_option linter.unusedSimpArgs false
set_option linter.unusedVariables false
namespace Go.Proofs.Ytjcncbejnplakaa
open Go Go.Abs

/-- A heap of one's own. -/
def HeapM (H : AH) (q : Nat) (L : List Ent) (S : List Nat) : Prop :=
  ∃ v, H.blk q = some (.row [v] T_mmheap_Heap true) ∧ Own H T_key_Entry 4 v L.length (cellsE L) S ∧ q ∉ S ∧ L.length ≤ 1000000
theorem HeapM.read {H : AH} {q : Nat} {L : List Ent} {S : List Nat} (h : HeapM H q L S) : HeapR H q L := by
  obtain ⟨v, h1, h2, h3, h4⟩ := h
  exact ⟨v, AH.cells_of h1, h2.vw fun _ _ => trivial, h4⟩
theorem HeapM.kept {H H' : AH} {q : Nat} {L : List Ent} {S : List Nat} (h : HeapM H q L S) (hw : WF H) (hk : Keep [] H H') : HeapM H' q L S := by
  obtain ⟨v, h1, h2, h3, h4⟩ := h
  exact ⟨v, by rw [hk.blk q (hw.lt h1) (by simp), h1], h2.kept hw hk (by simp), h3, h4⟩

theorem swap_specM {H : AH} {q : Nat} {L : List Ent} {S : List Nat} (h : HeapM H q L S) {i k : Nat} (hi : i < L.length) (hk : k < L.length) : AFn Try.prog F_mmheap_Heap_swap [.pointer (some ⟨q, 0, none⟩), .int .i64 i, .int .i64 k] H fun u H' => HeapM H' q (swapL L i k) S ∧ Keep S H H' := by
  obtain ⟨v, h1, h2, h3, h4⟩ := id h
  have hr := h.read
  obtain ⟨v', g1, g2, _⟩ := hr
  have hv : v' = v := by rw [AH.cells_of h1] at g1; cases g1; rfl
  subst hv
  obtain ⟨b, off, sp, cap, cs, rfl, rfl, q1, q2, q3, q4⟩ := h2.pos (by omega)
  have hcut := entries_at g2 (by omega)
  obtain ⟨b', off', sp', cap', cs', he, hc', hall⟩ := hcut
  cases he
  rw [q2] at hc'
  cases hc'
  have e1 := hall i hi
  have e2 := hall k hk
  have hbq : b ≠ q := fun hc => h3 (by simp [hc])
  refine AFn.enter mixed ir_mmheap_Heap_swap_eq (by simp [ir_mmheap_Heap_swap]) fun hw => ?_
  have hmi : i * 4 + 4 ≤ L.length * 4 := by omega
  have hmk : k * 4 + 4 ≤ L.length * 4 := by omega
  obtain ⟨p1, p2, _⟩ := h2.write q1 (k := i * 4) (news := L[k].cells) (by simp [Ent.cells]; omega)
  rw [cellsE_set L i L[k] hi] at p2
  have p2' : Own (H.set b (.row (over cs (off + i * 4) L[k].cells) T_key_Entry true)) T_key_Entry 4 (.slice (some ⟨b, off, sp⟩) L.length cap) (L.set i L[k]).length (cellsE (L.set i L[k])) [b] := by rw [List.length_set]; exact p2
  have hq1' : (H.set b (.row (over cs (off + i * 4) L[k].cells) T_key_Entry true)).blk b = some (.row (over cs (off + i * 4) L[k].cells) T_key_Entry true) := AH.set_blk_same
  obtain ⟨p3, p4, _⟩ := p2.write hq1' (k := k * 4) (news := L[i].cells) (by simp [Ent.cells]; omega)
  rw [cellsE_set (L.set i L[k]) k L[i] (by simpa using hk)] at p4
  have hsw : swapL L i k = (L.set i L[k]).set k L[i] := by unfold swapL; rw [List.getElem?_eq_getElem hi, List.getElem?_eq_getElem hk]
  have hlen := swapL_length L i k
  rw [← hsw] at p4
  generalize L[i] = x at *
  generalize L[k] = y at *
  have lx : x.cells.length = 4 := rfl
  have ly : y.cells.length = 4 := rfl
  simp (disch := omega) [-getElem?_pos, if_pos, if_neg, decide_eq_true, decide_eq_false, ir_mmheap_Heap_swap, AH.cells_of h1, q2, e1, e2, lx, ly, p1, p3]
  rw [AH.set_set] at p4
  refine ⟨⟨_, ?_, by rw [hlen]; exact p4, h3, by omega⟩, ?_⟩
  · rw [AH.set_blk_ne (Ne.symm hbq)]; exact h1
  · rw [← AH.set_set (B := .row (over cs (off + i * 4) y.cells) T_key_Entry true)]
    exact (Keep.set (by simp)).trans' (Keep.set (by simp))

theorem Len_specM {H : AH} {q : Nat} {L : List Ent} (h : HeapR H q L) : AFn Try.prog F_mmheap_Heap_Len [.pointer (some ⟨q, 0, none⟩)] H fun u H' => u = .int .i64 L.length ∧ H' = H := by
  obtain ⟨v, h1, h2, h3⟩ := h
  obtain ⟨a, c, rfl⟩ := h2.slice
  refine AFn.enter mixed ir_mmheap_Heap_Len_eq (by simp [ir_mmheap_Heap_Len]) fun hw => ?_
  simp (disch := omega) [-getElem?_pos, if_pos, if_neg, decide_eq_true, decide_eq_false, ir_mmheap_Heap_Len, h1]

/-- How many digits, of two. -/
def bl (n : Nat) : Nat := if n = 0 then 0 else n.log2 + 1
theorem bl_half {n : Nat} (h : 0 < n) : bl n = bl (n / 2) + 1 := by
  unfold bl
  rw [if_neg (by omega)]
  by_cases h1 : n = 1
  · subst h1; decide
  · rw [if_neg (by omega), Nat.log2_def, if_pos (by omega)]
theorem bl_shift : ∀ (k n : Nat), 2 ^ k ≤ n → bl n = bl (n / 2 ^ k) + k
  | 0, n, _ => by simp
  | k + 1, n, h => by
    have h2 : 2 ^ (k + 1) = 2 ^ k * 2 := Nat.pow_succ 2 k
    have h3 : 2 ^ k ≤ n := by have : 0 < 2 ^ k := Nat.pow_pos (by omega); omega
    rw [bl_shift k n h3, bl_half (n := n / 2 ^ k) (Nat.div_pos h3 (Nat.pow_pos (by omega))), Nat.div_div_eq_div_mul, ← h2]
    omega
theorem parB_bl : ∀ (i : Nat), parB i = decide (bl (i + 1) % 2 = 1) := by
  intro i
  induction i using Nat.strongRecOn with
  | ind i ih =>
    by_cases h0 : i = 0
    · subst h0; rw [parB_zero]; decide
    · rw [parB_pos (by omega), ih _ (by omega), bl_half (n := i + 1) (by omega), show (i + 1) / 2 = (i - 1) / 2 + 1 by omega]
      generalize bl ((i - 1) / 2 + 1) = m
      by_cases hm : m % 2 = 1
      · rw [decide_eq_true hm, decide_eq_false (by omega)]; rfl
      · rw [decide_eq_false hm, decide_eq_true (by omega)]; rfl
theorem len8 : ∀ t, t < 256 → (str_0[t]?).map UInt8.toNat = some (bl t) := by decide +kernel
theorem len8_get {t : Nat} (h : t < 256) : ∃ b : UInt8, str_0[t]? = some b ∧ b.toNat = bl t := by
  have := len8 t h
  cases hb : str_0[t]? with
  | none => rw [hb] at this; cases this
  | some b => rw [hb] at this; exact ⟨b, rfl, by simpa using this⟩
theorem bl_lt {t : Nat} (h : t < 256) : bl t ≤ 8 := by
  have : ∀ t, t < 256 → bl t ≤ 8 := by decide +kernel
  exact this t h

theorem bits_Len64_spec {H : AH} {x : Nat} (hx : x < 1048576) : AFn Try.prog F_bits_Len64 [uv x] H fun u H' => u = .int .i64 (bl x) ∧ H' = H := by
  refine AFn.enter mixed ir_bits_Len64_eq (by simp [ir_bits_Len64]) fun hw => ?_
  have c0 : abin .geq (uv x) (uv 4294967296) = some (.bool false) := by rw [uv_geq, decide_eq_false (by omega)]
  have conv8 : ∀ y : Nat, y < 256 → IntKind.u8.wrap ((y : Nat) : Int) = (y : Int) := fun y hy => by simp [IntKind.wrap, IntKind.bits, IntKind.signed]; omega
  by_cases h1 : 65536 ≤ x
  · have c1 : abin .geq (uv x) (uv 65536) = some (.bool true) := by rw [uv_geq, decide_eq_true (by omega)]
    have s1 : abin .shr (uv x) (uv 16) = some (uv (x / 65536)) := uv_shr (n := 16) (by omega)
    have hb := bl_shift 16 x (by omega)
    have hlt : x / 65536 < 256 := by omega
    rw [show (2 : Nat) ^ 16 = 65536 by rfl] at hb
    generalize x / 65536 = y at *
    have c2 : abin .geq (uv y) (uv 256) = some (.bool false) := by rw [uv_geq, decide_eq_false (by omega)]
    obtain ⟨b, hb1, hb2⟩ := len8_get hlt
    have := bl_lt hlt
    rw [hb]
    generalize bl y = r at *
    simp (disch := omega) [-getElem?_pos, ir_bits_Len64, ↓c0, ↓c1, ↓s1, ↓c2]
    simp only [uv_def]
    simp (disch := omega) [-getElem?_pos, conv8, hb1, hb2, IntWalk.i64_in]
    omega
  · have c1 : abin .geq (uv x) (uv 65536) = some (.bool false) := by rw [uv_geq, decide_eq_false (by omega)]
    by_cases h2 : 256 ≤ x
    · have c2 : abin .geq (uv x) (uv 256) = some (.bool true) := by rw [uv_geq, decide_eq_true (by omega)]
      have s1 : abin .shr (uv x) (uv 8) = some (uv (x / 256)) := uv_shr (n := 8) (by omega)
      have hb := bl_shift 8 x (by omega)
      have hlt : x / 256 < 256 := by omega
      rw [show (2 : Nat) ^ 8 = 256 by rfl] at hb
      generalize x / 256 = y at *
      obtain ⟨b, hb1, hb2⟩ := len8_get hlt
      have := bl_lt hlt
      rw [hb]
      generalize bl y = r at *
      simp (disch := omega) [-getElem?_pos, ir_bits_Len64, ↓c0, ↓c1, ↓s1, ↓c2]
      simp only [uv_def]
      simp (disch := omega) [-getElem?_pos, conv8, hb1, hb2, IntWalk.i64_in]
      omega
    · have c2 : abin .geq (uv x) (uv 256) = some (.bool false) := by rw [uv_geq, decide_eq_false (by omega)]
      obtain ⟨b, hb1, hb2⟩ := len8_get (show x < 256 by omega)
      have := bl_lt (show x < 256 by omega)
      generalize bl x = r at *
      simp (disch := omega) [-getElem?_pos, ir_bits_Len64, ↓c0, ↓c1, ↓c2]
      simp only [uv_def]
      simp (disch := omega) [-getElem?_pos, conv8, hb1, hb2, IntWalk.i64_in]
theorem bits_Len_spec {H : AH} {x : Nat} (hx : x < 1048576) : AFn Try.prog F_bits_Len [uv x] H fun u H' => u = .int .i64 (bl x) ∧ H' = H := by
  refine AFn.enter mixed ir_bits_Len_eq (by simp [ir_bits_Len]) fun hw => ?_
  simp (disch := omega) [-getElem?_pos, if_pos, if_neg, decide_eq_true, decide_eq_false, ir_bits_Len]
  refine AFn.pure (bits_Len64_spec hx) ?_
  simp (disch := omega) [-getElem?_pos, if_pos, if_neg, decide_eq_true, decide_eq_false, ]
theorem least_spec {H : AH} {i : Nat} (hi : i < 1000000) : AFn Try.prog F_mmheap_least [.int .i64 i] H fun u H' => u = .bool (parB i) ∧ H' = H := by
  refine AFn.enter mixed ir_mmheap_least_eq (by simp [ir_mmheap_least]) fun hw => ?_
  rw [parB_bl]
  have e : (i : Int) + 1 = ((i + 1 : Nat) : Int) := by omega
  have e2 : IntKind.u64.wrap ((i + 1 : Nat) : Int) = ((i + 1 : Nat) : Int) := by simp [IntKind.wrap, IntKind.bits, IntKind.signed]; omega
  have e3 : ∀ n : Nat, (Value.int .u64 (n : Int)) = uv n := fun n => (uv_def n).symm
  have hb : bl (i + 1) < 1000 := by
    have : bl (i + 1) ≤ 20 := by
      unfold bl
      split
      · omega
      · have := Nat.log2_lt (n := i + 1) (k := 20) (by omega) |>.2 (by omega)
        omega
    omega
  have t2 : ((bl (i + 1) : Nat) : Int).tmod 2 = ((bl (i + 1) % 2 : Nat) : Int) := by rw [Int.tmod_eq_emod_of_nonneg (by omega)]; norm_cast
  have hz : bl (i + 1) % 2 = 0 ∨ bl (i + 1) % 2 = 1 := by omega
  have hs := bits_Len_spec (H := H) (x := i + 1) (by omega)
  generalize i + 1 = m at *
  generalize bl m = r at *
  simp (disch := omega) [-getElem?_pos, if_pos, if_neg, decide_eq_true, decide_eq_false, ir_mmheap_least, e, IntWalk.i64_in, e2, e3]
  refine AFn.pure hs ?_
  rcases hz with hz | hz <;> rw [hz] at t2 ⊢ <;> simp (disch := omega) [-getElem?_pos, if_pos, if_neg, decide_eq_true, decide_eq_false, t2]

theorem ahead_spec {H : AH} {q : Nat} {L : List Ent} (h : HeapR H q L) {i k : Nat} (hi : i < L.length) (hk : k < L.length) (s : Bool) : AFn Try.prog F_mmheap_Heap_ahead [.pointer (some ⟨q, 0, none⟩), .int .i64 i, .int .i64 k, .bool s] H fun u H' => u = .bool (aheadL L i k s) ∧ H' = H := by
  refine AFn.calm (fun H0 hs => ?_) rfl
  obtain ⟨v, h1, h2, h3⟩ := h.same hs
  obtain ⟨b, off, sp, cap, cs, rfl, h4, h5⟩ := entries_at h2 (by omega)
  have g1 := h5 i hi
  have g2 := h5 k hk
  refine AFn.enter mixed ir_mmheap_Heap_ahead_eq (by simp [ir_mmheap_Heap_ahead]) fun hw => ?_
  unfold aheadL
  rw [ltAt_eq hi hk, ltAt_eq hk hi]
  generalize L[i] = x at *
  generalize L[k] = y at *
  cases s with
  | true =>
    simp (disch := omega) [-getElem?_pos, if_pos, if_neg, decide_eq_true, decide_eq_false, ir_mmheap_Heap_ahead, h1, h4, g1, g2]
    refine AFnD.of (Less_spec x y) ?_
    simp (disch := omega) [-getElem?_pos, if_pos, if_neg, decide_eq_true, decide_eq_false, ]
  | false =>
    simp (disch := omega) [-getElem?_pos, if_pos, if_neg, decide_eq_true, decide_eq_false, ir_mmheap_Heap_ahead, h1, h4, g1, g2]
    refine AFnD.of (Less_spec y x) ?_
    simp (disch := omega) [-getElem?_pos, if_pos, if_neg, decide_eq_true, decide_eq_false, ]
end Go.Proofs.Ytjcncbejnplakaa
