/-
  The type of the items that come in; the package-level variables, of which none is read.
-/
import Derived.Test.YtllfcbacpoaphaaReach
import Derived.Test.YtllfcbacpoaphaaIr16
import Derived.HandedShaped
namespace Go.Proofs.Ytllfcbacpoaphaa
open Go Go.Abs
theorem hu22 : Try.prog.underlying 22 = some (.slice T_2_int64):=by kernel_rfl
theorem ho22 : okSh Try.prog 10 (.slice (.cons 1 (.int .i64) (.cons 1 (.int .i64) .nil)) 2) 22 = true:=by kernel_rfl
theorem h16 : Try.prog.bytesOf T_2_int64 = 16:=by kernel_rfl
theorem globs2 : Try.prog.globals.size = 2:=by kernel_rfl
theorem globs_row : ((((begin Try.prog (fun _ _ => 0) default).world).heap[1]?).bind Obj.row?).isSome = true:=by kernel_rfl
theorem globs_le {W : World} (h : W.ShapedOpen Try.prog) : Try.prog.globals.size ≤ W.heap.size:=by
 obtain ⟨⟨zero,t⟩,hz⟩:=Option.isSome_iff_exists.1 globs_row
 obtain ⟨cs,h1,_⟩:=h.1 1 zero t (by rw [globs2]; omega) hz
 rw [globs2]
 have:=(Array.getElem?_eq_some_iff.1 h1).1
 omega
end Go.Proofs.Ytllfcbacpoaphaa
