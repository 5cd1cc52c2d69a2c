/-
  Numbers in a block of their own.
-/
import Derived.Test.YtejifalflkbekaaDoorRen
import Derived.Test.YtejifalflkbekaaDoorIr18
import Derived.Test.YtejifalflkbekaaDoorBu28
import Derived.Test.YtejifalflkbekaaDoorBu26

set_option linter.unusedSimpArgs false
set_option linter.unusedVariables false
namespace Go.Abs
open Go
theorem cut2v (a b : Value) : cut [a,b] 0 2 = some [a,b]:=rfl
theorem IsArg.bools_ren {H : AH} (hw : WF H) {v : Value} (h : IsArg H (.slice .bool 1) v) : ∃ l : List Bool,SlV (fun b => b < H.next) H v l:=by
 unfold IsArg at h
 rw [if_pos (by simp [Sh.single])] at h
 obtain ⟨l,w,e,h⟩:=Is.list hw (α:=Bool) rfl (fun _ => Is.bool_ren) h
 cases e
 exact ⟨l,h⟩
theorem IsArg.sets_ren {H : AH} (hw : WF H) {v : Value} (h : IsArg H (.slice shSet 2) v) : ∃ l : List SetD,SlV (fun b => b < H.next) H v l:=by
 unfold IsArg at h
 rw [if_pos (by simp [Sh.single])] at h
 obtain ⟨l,w,e,h⟩:=Is.list hw (α:=SetD) rfl (fun _ => Is.set_ren hw) h
 cases e
 exact ⟨l,h⟩
end Go.Abs
namespace Go.Proofs.YtejifalflkbekaaDoor
open Go Go.Abs
end Go.Proofs.YtejifalflkbekaaDoor

set_option maxRecDepth 100000
namespace Go.Abs
open Go Go.Proofs.YtejifalflkbekaaDoor.Bs
end Go.Abs
namespace Go.Proofs.YtejifalflkbekaaDoor
open Go Go.Abs Go.Proofs.YtejifalflkbekaaDoor.Bs
end Go.Proofs.YtejifalflkbekaaDoor

set_option maxRecDepth 100000
namespace Go.Abs
open Go Go.Proofs.YtejifalflkbekaaDoor.Bs
end Go.Abs
namespace Go.Proofs.YtejifalflkbekaaDoor
open Go Go.Abs Go.Proofs.YtejifalflkbekaaDoor.Bs
end Go.Proofs.YtejifalflkbekaaDoor

set_option maxRecDepth 100000
namespace Go.Proofs.YtejifalflkbekaaDoor
open Go Go.Abs Go.Proofs.YtejifalflkbekaaDoor.Bs
end Go.Proofs.YtejifalflkbekaaDoor
