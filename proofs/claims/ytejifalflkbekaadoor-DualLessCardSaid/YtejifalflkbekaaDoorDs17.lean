/-
  DualLeast: the end.
-/
import Derived.Test.YtejifalflkbekaaDoorBu37
set_option maxRecDepth 100000
set_option linter.unusedSimpArgs false
set_option linter.unusedVariables false
namespace Go.Abs
open Go Go.Proofs.YtejifalflkbekaaDoor.Bs
end Go.Abs
namespace Go.Proofs.YtejifalflkbekaaDoor
open Go Go.Abs Go.Proofs.YtejifalflkbekaaDoor.Bs
theorem take8 {p : Nat → Prop} {H : AH} {v : Value} {L : List SetD} (h : SlV p H v L) : ∃ m w,(if (8 : Int) < (L.length : Int) then (8 : Int) else (L.length : Int)) = ((m : Nat) : Int) ∧ m ≤ 8 ∧ m ≤ L.length ∧ slA H 2 (some v) (some (.int .i64 (m : Nat))) = some (w,H) ∧ SlV p H w (L.take m) ∧ (L.take m).length = m:=by
 obtain ⟨m,hm⟩ : ∃ m : Nat,m = min L.length 8:=⟨_,rfl⟩
 obtain ⟨w,hsl,hW⟩:=h.sl (m:=m) (by omega)
 exact ⟨m,w,by split <;> omega,by omega,by omega,hsl,hW,by rw [List.length_take]; omega⟩
theorem sets_ok {n : Nat} {M : List SetD} (h : SetsOk (n : Int) M) (hl : M.length ≤ 4096) : DOk n M :=
 ⟨fun s hs => ((h s hs).2 (by omega)).2,fun s hs => ((h s hs).2 (by omega)).1,hl⟩
end Go.Proofs.YtejifalflkbekaaDoor
