/-
  Contracts of the library's functions on words of 64 bits.
-/
import Derived.Test.YtakdkbdjjlmccaaDoorWakes
import Derived.Test.YtakdkbdjjlmccaaDoorA31
import Derived.Test.YtakdkbdjjlmccaaDoorWords
set_option maxRecDepth 100000
set_option linter.unusedSimpArgs false
set_option linter.unusedVariables false
namespace Go.Proofs.YtakdkbdjjlmccaaDoor
open Go Go.Abs
theorem OnesCount64_spec {H : AH} {x : Nat} (hx : x < 18446744073709551616) : AFn Tryd.prog F_bits_OnesCount64 [uv x] H fun u H' => u = .int .i64 (cntN x) ∧ H' = H := by
  refine AFn.enter mixed ir_bits_OnesCount64_eq (by simp [ir_bits_OnesCount64]) fun hw => ?_
  obtain ⟨x1, h1⟩ : ∃ x1, x1 = (x / 2 &&& 6148914691236517205) + (x &&& 6148914691236517205) := ⟨_, rfl⟩
  obtain ⟨x2, h2⟩ : ∃ x2, x2 = (x1 / 4 &&& 3689348814741910323) + (x1 &&& 3689348814741910323) := ⟨_, rfl⟩
  obtain ⟨x3, h3⟩ : ∃ x3, x3 = (x2 / 16 + x2) &&& 1085102592571150095 := ⟨_, rfl⟩
  obtain ⟨x4, h4⟩ : ∃ x4, x4 = x3 + x3 / 256 := ⟨_, rfl⟩
  obtain ⟨x5, h5⟩ : ∃ x5, x5 = x4 + x4 / 65536 := ⟨_, rfl⟩
  obtain ⟨x6, h6⟩ : ∃ x6, x6 = x5 + x5 / 4294967296 := ⟨_, rfl⟩
  obtain ⟨r, l1, l2, l3, l4, l5, l6, l7⟩ := onesCount x x1 x2 x3 x4 x5 x6 hx h1 h2 h3 h4 h5 h6
  have l8 : x3 < 18446744073709551616 := by rw [h3]; exact and_lt' l3
  have s1 : ∀ y, y < 18446744073709551616 → abin .shr (uv y) (uv 1) = some (uv (y / 2)) := fun y hy => uv_shr (n := 1) hy
  have s2 : ∀ y, y < 18446744073709551616 → abin .shr (uv y) (uv 2) = some (uv (y / 4)) := fun y hy => uv_shr (n := 2) hy
  have s4 : ∀ y, y < 18446744073709551616 → abin .shr (uv y) (uv 4) = some (uv (y / 16)) := fun y hy => uv_shr (n := 4) hy
  have s8 : ∀ y, y < 18446744073709551616 → abin .shr (uv y) (uv 8) = some (uv (y / 256)) := fun y hy => uv_shr (n := 8) hy
  have s16 : ∀ y, y < 18446744073709551616 → abin .shr (uv y) (uv 16) = some (uv (y / 65536)) := fun y hy => uv_shr (n := 16) hy
  have s32 : ∀ y, y < 18446744073709551616 → abin .shr (uv y) (uv 32) = some (uv (y / 4294967296)) := fun y hy => uv_shr (n := 32) hy
  simp (disch := omega) [-getElem?_pos, ir_bits_OnesCount64, ↓s1, ↓s2, ↓s4, ↓s8, ↓s16, ↓s32, ↓uv_and, ↓uv_add, ← h1, ← h2, ← h3, ← h4, ← h5, ← h6]
  simp only [uv_def]
  have e : IntKind.i64.wrap (x6 : Int) = x6 := IntWalk.i64_in _ (by omega)
  have e2 : (BitVec.ofNat 64 x6 &&& 127#64).toNat = cntN x := by
    rw [BitVec.toNat_and, BitVec.toNat_ofNat, BitVec.toNat_ofNat, Nat.mod_eq_of_lt (by omega), ← r]
    exact Nat.and_two_pow_sub_one_eq_mod x6 7
  simp (disch := omega) [-getElem?_pos, e, IntKind.bits, ofInt_nat]
  show IntKind.i64.wrap (((BitVec.ofNat 64 x6 &&& 127#64 : BitVec 64).toNat : Nat) : Int) = _
  rw [e2]
  exact IntWalk.i64_in _ (by omega)
theorem deB_get : ∀ t, t < 64 → deB[(2 ^ t * 285870213051353865 % 18446744073709551616) / 2 ^ 58]? = some t ∧ (2 ^ t * 285870213051353865 % 18446744073709551616) / 2 ^ 58 < 64 := by decide +kernel
theorem TrailingZeros64_core {H : AH} {x nx p q y t : Nat} {cells : List Value} (h00 : abin .eql (uv x) (uv 0) = some (.bool false)) (e10 : aun .neg (uv x) = some (uv nx)) (e8 : abin .and (uv x) (uv nx) = some (uv p)) (e7 : abin .mul (uv p) (uv 285870213051353865) = some (uv q))
    (e6 : abin .shr (uv q) (uv 58) = some (.int .u64 y)) (e4 : y < 64) (e2 : t < 64) (e5 : H.cells 0 = some cells) (e9 : cells[y]? = some (.int .u8 t)) : AFn Tryd.prog F_bits_TrailingZeros64 [uv x] H fun u H' => u = .int .i64 t ∧ H' = H := by
  refine AFn.enter mixed ir_bits_TrailingZeros64_eq (by simp [ir_bits_TrailingZeros64]) fun hw => ?_
  simp (disch := omega) [-getElem?_pos, ir_bits_TrailingZeros64, if_pos, ↓h00, ↓e8, ↓e7, ↓e10, ↓e6, e5, e9, IntWalk.i64_in]
theorem TrailingZeros64_spec {H : AH} (hg : GroundA G H) {x t : Nat} (hx : x < 18446744073709551616) (ht : x.testBit t = true) (hl : ∀ j, j < t → x.testBit j = false) : AFn Tryd.prog F_bits_TrailingZeros64 [uv x] H fun u H' => u = .int .i64 t ∧ H' = H := by
  have h0 : 0 < x := by
    cases x with
    | zero => simp at ht
    | succ x => omega
  obtain ⟨e1, e2⟩ := and_neg x t hx h0 ht hl
  obtain ⟨e3, e4⟩ := deB_get t e2
  have e5 : H.cells 0 = some (deB.map fun (n : Nat) => (.int .u8 n : Value)) := hg (0, deB.map fun (n : Nat) => (.int .u8 n : Value)) (by unfold G; exact List.mem_singleton.2 rfl)
  have e6 : abin .shr (uv (2 ^ t * 285870213051353865 % 18446744073709551616)) (uv 58) = some (uv (2 ^ t * 285870213051353865 % 18446744073709551616 / 2 ^ 58)) := uv_shr (n := 58) (by omega)
  generalize 2 ^ t * 285870213051353865 % 18446744073709551616 / 2 ^ 58 = y at *
  have hp : 2 ^ t < 18446744073709551616 := Nat.pow_lt_pow_right (a := 2) (n := 64) (by omega) e2
  generalize 2 ^ t = p at *
  obtain ⟨q, hq⟩ : ∃ q, q = p * 285870213051353865 % 18446744073709551616 := ⟨_, rfl⟩
  rw [← hq] at e6
  have e7 : abin .mul (uv p) (uv 285870213051353865) = some (uv q) := by rw [hq]; exact uv_mul
  clear hq
  have e8 : abin .and (uv x) (uv (18446744073709551616 - x)) = some (uv p) := by rw [← e1]; exact uv_and hx (by omega)
  have e10 : aun .neg (uv x) = some (uv (18446744073709551616 - x)) := uv_neg h0 hx
  generalize 18446744073709551616 - x = nx at e8 e10
  clear e1 hl ht
  have e9 : (deB.map fun (n : Nat) => (.int .u8 n : Value))[y]? = some (.int .u8 t) := by rw [List.getElem?_map, e3]; rfl
  generalize (deB.map fun (n : Nat) => (.int .u8 n : Value)) = cells at e5 e9
  clear e3 hg
  rw [uv_def y] at e6
  exact TrailingZeros64_core (by rw [uv_eql]; simp; omega) e10 e8 e7 e6 e4 e2 e5 e9
end Go.Proofs.YtakdkbdjjlmccaaDoor
