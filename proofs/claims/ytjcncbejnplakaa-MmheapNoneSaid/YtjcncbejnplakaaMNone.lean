/-
  MmheapNone, reckoned.
-/
import Derived.Test.YtjcncbejnplakaaNone
set_option maxRecDepth 100000
namespace Go.Proofs.Ytjcncbejnplakaa
open Go Go.Abs

theorem MmheapNone_abs {H : AH} (b d s i : Int) : AFn Try.prog F_law05_MmheapNone [.agg #[.int .i64 b, .int .i64 d, .int .i64 s, .int .i64 i]] H fun u H' => u = .bool true ∧ H' = H :=
  AFn.reckonC mixed tab_ok 200 30 goodG_ok (by kernel_rfl) rfl rfl ground_nil
end Go.Proofs.Ytjcncbejnplakaa
