/-
  PLAIN LAW: natural numbers by their digits of 16 bits, the lowest first.
-/
import Derived.Test.YtllfcbacpoaphaaRen
set_option linter.unusedSimpArgs false
set_option linter.unusedVariables false
namespace Go.Abs
open Go
instance : Ren Nat where
 sz:=1
 R:=fun _ _ cs n => cs = [uv n] ∧ n < 18446744073709551616
 len:=fun h => by rw [h.1]; rfl
 up:=fun _ _ h => h
@[simp] theorem sz_nat : Ren.sz Nat = 1:=rfl
end Go.Abs
namespace Go.Abs
open Go
end Go.Abs
namespace Go.Abs
open Go
end Go.Abs
