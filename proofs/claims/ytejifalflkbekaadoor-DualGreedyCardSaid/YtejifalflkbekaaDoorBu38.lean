/-
  Numbers in a block of their own.
-/
import Derived.Test.YtejifalflkbekaaDoorRen
import Derived.Test.YtejifalflkbekaaDoorIr18
import Derived.Test.YtejifalflkbekaaDoorDs3
import Derived.Test.YtejifalflkbekaaDoorCrossN

set_option linter.unusedSimpArgs false
set_option linter.unusedVariables false
namespace Go.Abs
open Go
theorem AH.set_selfK {H : AH} {b : Nat} {B : Blk} (h : H.blk b = some B) : H.set b B = H:=by
 cases H with
 | mk blk next =>
  simp only [AH.set,AH.mk.injEq,and_true]
  funext i
  by_cases hi : i = b
  ·subst hi; simp only [if_true]; exact h.symm
  ·simp only [if_neg hi]
theorem cut2v (a b : Value) : cut [a,b] 0 2 = some [a,b]:=rfl
theorem IsArg.bools_ren {H : AH} (hw : WF H) {v : Value} (h : IsArg H (.slice .bool 1) v) : ∃ l : List Bool,SlV (fun b => b < H.next) H v l:=by
 unfold IsArg at h
 rw [if_pos (by simp [Sh.single])] at h
 obtain ⟨l,w,e,h⟩:=Is.list hw (α:=Bool) rfl (fun _ => Is.bool_ren) h
 cases e
 exact ⟨l,h⟩
theorem IsArg.sets_ren {H : AH} (hw : WF H) {v : Value} (h : IsArg H (.slice shSet 2) v) : ∃ l : List SetD,SlV (fun b => b < H.next) H v l:=by
 unfold IsArg at h
 rw [if_pos (by simp [Sh.single])] at h
 obtain ⟨l,w,e,h⟩:=Is.list hw (α:=SetD) rfl (fun _ => Is.set_ren hw) h
 cases e
 exact ⟨l,h⟩
end Go.Abs
namespace Go.Proofs.YtejifalflkbekaaDoor
open Go Go.Abs
end Go.Proofs.YtejifalflkbekaaDoor

set_option maxRecDepth 100000
namespace Go.Abs
open Go Go.Proofs.YtejifalflkbekaaDoor.Bs
end Go.Abs
namespace Go.Proofs.YtejifalflkbekaaDoor
open Go Go.Abs Go.Proofs.YtejifalflkbekaaDoor.Bs
def PrV (H : AH) (o : Option (List Int)) (u : Value) (H' : AH) : Prop:=∃ pv,u = .tuple #[pv,.bool o.isSome] ∧ SlV (fun b => H.next ≤ b ∧ b < H'.next) H' pv (o.getD []) ∧ Keep [] H H'
end Go.Proofs.YtejifalflkbekaaDoor

set_option maxRecDepth 100000
namespace Go.Abs
open Go Go.Proofs.YtejifalflkbekaaDoor.Bs
end Go.Abs
namespace Go.Proofs.YtejifalflkbekaaDoor
open Go Go.Abs Go.Proofs.YtejifalflkbekaaDoor.Bs
end Go.Proofs.YtejifalflkbekaaDoor

set_option maxRecDepth 100000
namespace Go.Proofs.YtejifalflkbekaaDoor
open Go Go.Abs Go.Proofs.YtejifalflkbekaaDoor.Bs
end Go.Proofs.YtejifalflkbekaaDoor
