/-
  Layer 3: what the document fixes ('wakes'), reckoned.
-/
import Derived.Test.YtejifalflkbekaaDoorIr
import Derived.Test.YtejifalflkbekaaDoorA31
set_option maxRecDepth 100000
namespace Go.Proofs.YtejifalflkbekaaDoor
open Go Go.Abs
def deB : List Nat:=[0,1,56,2,57,49,28,3,61,58,42,50,38,29,17,4,62,47,59,36,45,43,51,22,53,39,33,30,24,18,12,5,63,55,48,27,60,41,37,16,46,35,44,21,52,32,23,11,54,26,40,15,34,20,31,10,25,14,19,9,13,8,7,6]
def G : GTab:=[(0,deB.map fun (n : Nat) => .int .u8 n)]
theorem G_mem {p : Nat × List Value} (h : p ∈ G) : p = (0,deB.map fun (n : Nat) => .int .u8 n):=by unfold G at h; exact List.mem_singleton.1 h
theorem G_look : ∀ p ∈ G,lookG G p.1 = some (.row p.2 0 false):=fun p hp => by rw [G_mem hp]; rfl
theorem goodG_ok : goodG Tryd.prog.globals.size G = true:=by kernel_rfl
end Go.Proofs.YtejifalflkbekaaDoor
