/-
  THE ABSTRACT LAYER (30): numbers of kind uint64, as natural numbers.
-/
import Derived.Test.YtjcncbejnplakaaA29
set_option linter.unusedSimpArgs false
set_option linter.unusedVariables false
namespace Go.Abs
open Go

/-- A uint64. -/
def uv (n : Nat) : Value := .int .u64 n

theorem uv_def (n : Nat) : uv n = Value.int .u64 n := Eq.trans rfl rfl
theorem uv_lit (c : Nat) : (Value.int .u64 (no_index (OfNat.ofNat c))) = uv (OfNat.ofNat c) := Eq.trans (uv_def c).symm rfl
@[simp] theorem one_uv {n : Nat} : one (uv n) = true := rfl
@[simp] theorem cellsOf_uv {n : Nat} : cellsOf (uv n) = some [uv n] := rfl

theorem ofInt_nat (n : Nat) : BitVec.ofInt 64 (n : Int) = BitVec.ofNat 64 n := by
  apply BitVec.eq_of_toInt_eq; simp [BitVec.toInt_ofInt, BitVec.toInt_ofNat]
theorem wrap_u64 {n : Nat} (h : n < 18446744073709551616) : IntKind.u64.wrap (n : Int) = n := by
  simp [IntKind.wrap, IntKind.signed, IntKind.bits]; omega

/-- What is in the first one alone. -/
def andNotN (a b : Nat) : Nat := (BitVec.ofNat 64 a &&& ~~~BitVec.ofNat 64 b).toNat
theorem andNotN_lt (a b : Nat) : andNotN a b < 18446744073709551616 := (BitVec.ofNat 64 a &&& ~~~BitVec.ofNat 64 b).isLt
theorem andNotN_bit (a b i : Nat) (h : i < 64) : (andNotN a b).testBit i = (a.testBit i && !b.testBit i) := by
  rw [andNotN, ← BitVec.getLsbD, BitVec.getLsbD_and, BitVec.getLsbD_not, BitVec.getLsbD_ofNat, BitVec.getLsbD_ofNat]
  simp [h]

theorem and_lt' {a b : Nat} (h : a < 18446744073709551616) : a &&& b < 18446744073709551616 := Nat.lt_of_le_of_lt Nat.and_le_left h
theorem or_lt' {a b : Nat} (h : a < 18446744073709551616) (k : b < 18446744073709551616) : a ||| b < 18446744073709551616 := Nat.or_lt_two_pow (n := 64) h k
theorem xor_lt' {a b : Nat} (h : a < 18446744073709551616) (k : b < 18446744073709551616) : a ^^^ b < 18446744073709551616 := Nat.xor_lt_two_pow (n := 64) h k

section
variable {a b : Nat}
theorem uv_and (ha : a < 18446744073709551616) (hb : b < 18446744073709551616) : abin .and (uv a) (uv b) = some (uv (a &&& b)) := by
  rw [show abin .and (uv a) (uv b) = some (.int .u64 (IntKind.u64.wrap (((BitVec.ofInt 64 (a : Int) &&& BitVec.ofInt 64 (b : Int)).toNat : Nat) : Int))) from rfl, ofInt_nat, ofInt_nat, BitVec.toNat_and, BitVec.toNat_ofNat, BitVec.toNat_ofNat, Nat.mod_eq_of_lt ha, Nat.mod_eq_of_lt hb, wrap_u64 (and_lt' ha)]; rfl
theorem uv_or (ha : a < 18446744073709551616) (hb : b < 18446744073709551616) : abin .or (uv a) (uv b) = some (uv (a ||| b)) := by
  rw [show abin .or (uv a) (uv b) = some (.int .u64 (IntKind.u64.wrap (((BitVec.ofInt 64 (a : Int) ||| BitVec.ofInt 64 (b : Int)).toNat : Nat) : Int))) from rfl, ofInt_nat, ofInt_nat, BitVec.toNat_or, BitVec.toNat_ofNat, BitVec.toNat_ofNat, Nat.mod_eq_of_lt ha, Nat.mod_eq_of_lt hb, wrap_u64 (or_lt' ha hb)]; rfl
theorem uv_xor (ha : a < 18446744073709551616) (hb : b < 18446744073709551616) : abin .xor (uv a) (uv b) = some (uv (a ^^^ b)) := by
  rw [show abin .xor (uv a) (uv b) = some (.int .u64 (IntKind.u64.wrap (((BitVec.ofInt 64 (a : Int) ^^^ BitVec.ofInt 64 (b : Int)).toNat : Nat) : Int))) from rfl, ofInt_nat, ofInt_nat, BitVec.toNat_xor, BitVec.toNat_ofNat, BitVec.toNat_ofNat, Nat.mod_eq_of_lt ha, Nat.mod_eq_of_lt hb, wrap_u64 (xor_lt' ha hb)]; rfl
theorem uv_andNot : abin .andNot (uv a) (uv b) = some (uv (andNotN a b)) := by
  rw [show abin .andNot (uv a) (uv b) = some (.int .u64 (IntKind.u64.wrap (((BitVec.ofInt 64 (a : Int) &&& ~~~BitVec.ofInt 64 (b : Int)).toNat : Nat) : Int))) from rfl, ofInt_nat, ofInt_nat,
    show (BitVec.ofNat 64 a &&& ~~~BitVec.ofNat 64 b).toNat = andNotN a b from rfl, wrap_u64 (andNotN_lt a b)]; rfl
theorem uv_add (h : a + b < 18446744073709551616) : abin .add (uv a) (uv b) = some (uv (a + b)) := by
  simp only [abin, uv, ne_eq, not_true, if_false]
  rw [← Int.natCast_add, wrap_u64 h]
theorem uv_sub (hb : b ≤ a) (ha : a < 18446744073709551616) : abin .sub (uv a) (uv b) = some (uv (a - b)) := by
  simp only [abin, uv, ne_eq, not_true, if_false]
  rw [← Int.natCast_sub hb, wrap_u64 (by omega)]
theorem uv_mul : abin .mul (uv a) (uv b) = some (uv (a * b % 18446744073709551616)) := by
  simp only [abin, uv, ne_eq, not_true, if_false]
  rw [← Int.natCast_mul]
  simp [IntKind.wrap, IntKind.signed, IntKind.bits]
theorem uv_neg (h : 0 < a) (ha : a < 18446744073709551616) : aun .neg (uv a) = some (uv (18446744073709551616 - a)) := by
  simp only [aun, uv]
  congr 2
  simp [IntKind.wrap, IntKind.signed, IntKind.bits]
  omega
theorem min64 {n : Nat} : min ((n : Int).toNat) (IntKind.u64.bits) = min n 64 := by simp [IntKind.bits]
theorem uv_shr {k : IntKind} {n : Nat} (ha : a < 18446744073709551616) : abin .shr (uv a) (.int k n) = some (uv (a / 2 ^ n)) := by
  simp only [abin, uv]
  rw [if_neg (by omega), min64]
  congr 2
  have : ((a : Int).fdiv (2 ^ min n 64)) = ((a / 2 ^ min n 64 : Nat) : Int) := by
    rw [Int.fdiv_eq_ediv_of_nonneg _ (Int.pow_nonneg (by omega))]; norm_cast
  rw [this]
  by_cases h : n ≤ 64
  · rw [Nat.min_eq_left h]
  · rw [Nat.min_eq_right (by omega), Nat.div_eq_of_lt (show a < 2 ^ 64 from ha), Nat.div_eq_of_lt (Nat.lt_of_lt_of_le (show a < 2 ^ 64 from ha) (Nat.pow_le_pow_right (by omega) (by omega)))]
theorem uv_shl1 {k : IntKind} {n : Nat} (h : n < 64) : abin .shl (uv 1) (.int k n) = some (uv (2 ^ n)) := by
  simp only [abin, uv]
  rw [if_neg (by omega), min64, Nat.min_eq_left (by omega)]
  congr 2
  have hlt : 2 ^ n < 18446744073709551616 := Nat.pow_lt_pow_right (a := 2) (n := 64) (by omega) h
  have := wrap_u64 hlt
  simpa using this
theorem uv_eql : abin .eql (uv a) (uv b) = some (.bool (decide (a = b))) := by simp [abin, uv]; omega
theorem uv_neq : abin .neq (uv a) (uv b) = some (.bool (decide (a ≠ b))) := by simp [abin, uv]; omega
theorem uv_lss : abin .lss (uv a) (uv b) = some (.bool (decide (a < b))) := by simp [abin, uv]
theorem uv_gtr : abin .gtr (uv a) (uv b) = some (.bool (decide (a > b))) := by simp [abin, uv]
theorem uv_geq : abin .geq (uv a) (uv b) = some (.bool (decide (a ≥ b))) := by simp [abin, uv]
end

end Go.Abs
