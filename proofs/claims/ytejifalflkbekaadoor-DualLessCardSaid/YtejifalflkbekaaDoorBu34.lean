/-
  slices.Sort of numbers in a slice of one's own.
-/
import Derived.Test.YtejifalflkbekaaDoorBu33
import Derived.Test.YtejifalflkbekaaDoorRen
import Derived.Test.YtejifalflkbekaaDoorDs7
import Derived.Test.YtejifalflkbekaaDoorDp2

set_option maxRecDepth 100000
set_option linter.unusedSimpArgs false
set_option linter.unusedVariables false
namespace Go.Proofs.YtejifalflkbekaaDoor.Ps
open Go Go.Abs
end Go.Proofs.YtejifalflkbekaaDoor.Ps

set_option maxRecDepth 100000
namespace Go.Proofs.YtejifalflkbekaaDoor
open Go Go.Abs Go.Proofs.YtejifalflkbekaaDoor.Bs
end Go.Proofs.YtejifalflkbekaaDoor

set_option maxRecDepth 100000
namespace Go.Proofs.YtejifalflkbekaaDoor
open Go Go.Abs Go.Proofs.YtejifalflkbekaaDoor.Bs
def SetAt (H : AH) (q : Nat) (S : List Nat) (B : List Bool) : Prop:=∃ sl,H.blk q = some (.row [.int .i64 B.length,sl] T_bitset_Set true) ∧ SetB (fun b => b ≠ q ∧ b ∉ S) H (.agg #[.int .i64 B.length,sl]) B
theorem SetAt.grow {H H' : AH} {q : Nat} {B : List Bool} {S S' : List Nat} (h : SetAt H q S B) (hw : WF H) (hk : Keep S H H') (hq : q ∉ S) (hS : ∀ b ∈ S',b ∈ S ∨ H.next ≤ b) : SetAt H' q S' B:=by
 obtain ⟨sl,h1,h2⟩:=h
 refine ⟨sl,(hk.blk q (hw.lt h1) hq).trans h1,(setB_old hw h2).up2 (fun b hb => ⟨hb.1.1,fun hc => ?_⟩) (.keep hw hk fun b hb hc => hc.1.2 hb)⟩
 rcases hS b hc with h | h
 ·exact hb.1.2 h
 ·have:=hb.2; omega
end Go.Proofs.YtejifalflkbekaaDoor
