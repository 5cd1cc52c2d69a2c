/-
  Layer 4: the package-level variables that are listed; what the document fixes ('wakes'), reckoned.
-/
import Derived.Test.YtjcncbejnplakaaDoorIr
import Derived.Test.YtjcncbejnplakaaDoorA35
set_option maxRecDepth 100000
namespace Go.Proofs.YtjcncbejnplakaaDoor
open Go Go.Abs

def pow10 : List Nat := [1, 10, 100, 1000, 10000, 100000, 1000000, 10000000, 100000000, 1000000000, 10000000000, 100000000000, 1000000000000, 10000000000000, 100000000000000, 1000000000000000, 10000000000000000, 100000000000000000, 1000000000000000000, 10000000000000000000]
def deB32 : List Nat := [0, 1, 28, 2, 29, 14, 24, 3, 30, 22, 20, 15, 25, 17, 4, 8, 31, 27, 13, 23, 21, 19, 16, 7, 26, 12, 18, 6, 11, 5, 10, 9]
def deB : List Nat := [0, 1, 56, 2, 57, 49, 28, 3, 61, 58, 42, 50, 38, 29, 17, 4, 62, 47, 59, 36, 45, 43, 51, 22, 53, 39, 33, 30, 24, 18, 12, 5, 63, 55, 48, 27, 60, 41, 37, 16, 46, 35, 44, 21, 52, 32, 23, 11, 54, 26, 40, 15, 34, 20, 31, 10, 25, 14, 19, 9, 13, 8, 7, 6]
/-- The package-level variables. -/
def G : GTab := [(0, pow10.map fun (n : Nat) => .int .u64 n), (1, deB32.map fun (n : Nat) => .int .u8 n), (2, deB.map fun (n : Nat) => .int .u8 n)]
theorem G_mem {p : Nat × List Value} (h : p ∈ G) : p = (0, pow10.map fun (n : Nat) => .int .u64 n) ∨ p = (1, deB32.map fun (n : Nat) => .int .u8 n) ∨ p = (2, deB.map fun (n : Nat) => .int .u8 n) := by
  unfold G at h
  simpa only [List.mem_cons, List.not_mem_nil, or_false] using h
theorem G_look : ∀ p ∈ G, lookG G p.1 = some (.row p.2 0 false) := fun p hp => by
  rcases G_mem hp with rfl | rfl | rfl <;> rfl
theorem goodG_ok : goodG Tryd.prog.globals.size G = true := by kernel_rfl

/-- None of them is read here. -/
def G0 : GTab := []
theorem goodG0_ok : goodG Tryd.prog.globals.size G0 = true := rfl
theorem ground_nil {H : AH} : GroundA G0 H := fun _ h => by cases h

theorem wakes4_spec {H : AH} : AFn Tryd.prog F_law04_wakes [] H fun u H' => u = .bool true ∧ H' = H :=
  AFn.reckon mixed tab_ok 200 30 goodG0_ok (by kernel_rfl) rfl rfl ground_nil
end Go.Proofs.YtjcncbejnplakaaDoor
