/-
  DualLeast: its loops over elements.
-/
import Derived.Test.YtejifalflkbekaaDoorBu34
import Derived.Test.YtejifalflkbekaaDoorDp3
set_option maxRecDepth 100000
set_option linter.unusedSimpArgs false
set_option linter.unusedVariables false
namespace Go.Proofs.YtejifalflkbekaaDoor
open Go Go.Abs Go.Proofs.YtejifalflkbekaaDoor.Bs
theorem i64_nat_and {a b : Nat} (ha : a < 4611686018427387904) (hb : b < 4611686018427387904) : abin .and (.int .i64 a) (.int .i64 b) = some (.int .i64 ((a &&& b : Nat) : Int)):=by
 have h : (BitVec.ofInt 64 (a : Int) &&& BitVec.ofInt 64 (b : Int)).toNat = a &&& b:=by
  rw [BitVec.toNat_and,BitVec.ofInt_natCast,BitVec.ofInt_natCast,BitVec.toNat_ofNat,BitVec.toNat_ofNat,Nat.mod_eq_of_lt (by omega),Nat.mod_eq_of_lt (by omega)]
 have hl : a &&& b ≤ a:=Nat.and_le_left
 show some (Value.int .i64 (IntKind.i64.wrap ((BitVec.ofInt 64 (a : Int) &&& BitVec.ofInt 64 (b : Int)).toNat : Int))) = _
 rw [h,IntWalk.i64_in _ (by omega)]
theorem i64_and1 {a : Nat} (ha : a < 4611686018427387904) : abin .and (.int .i64 a) (.int .i64 1) = some (.int .i64 ((a % 2 : Nat) : Int)):=by
 have:=i64_nat_and (b:=1) ha (by omega)
 rw [Nat.and_one_is_mod] at this; exact this
theorem i64_shl1 {k : Nat} (h : k < 62) : abin .shl (.int .i64 1) (.int .i64 k) = some (.int .i64 ((2 ^ k : Nat) : Int)):=by
 have hlt : 2 ^ k < 4611686018427387904:=Nat.pow_lt_pow_right (a:=2) (n:=62) (by omega) h
 simp only [abin]
 rw [if_neg (show ¬ (k : Int) < 0 by omega),show min (Int.toNat (k : Int)) IntKind.i64.bits = k by (show min k 64 = k); omega]
 have hz : ∀ z : Nat,z < 4611686018427387904 → IntKind.i64.wrap (z : Int) = z:=fun z hz => IntWalk.i64_in _ (by omega)
 have:=hz _ hlt
 simpa using this
theorem msk_shr {mask k : Nat} (hk : k < 60) : abin .shr (.int .i64 (mask : Int)) (.int .i64 (k : Int)) = some (.int .i64 ((mask / 2 ^ k : Nat) : Int)):=by
 simp only [abin]
 rw [if_neg (show ¬ (k : Int) < 0 by omega),show min (Int.toNat (k : Int)) IntKind.i64.bits = k by (show min k 64 = k); omega]
 rw [Int.fdiv_eq_ediv_of_nonneg _ (Int.pow_nonneg (by omega))]
 norm_cast
end Go.Proofs.YtejifalflkbekaaDoor
