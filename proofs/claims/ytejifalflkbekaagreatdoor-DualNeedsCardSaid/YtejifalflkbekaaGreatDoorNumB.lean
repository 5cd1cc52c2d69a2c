/-
  Numbers in a block of their own.
-/
import Derived.Test.YtejifalflkbekaaGreatDoorRen
import Derived.Test.YtejifalflkbekaaGreatDoorIr18
set_option linter.unusedSimpArgs false
set_option linter.unusedVariables false
namespace Go.Abs
open Go
theorem cut2v (a b : Value) : cut [a,b] 0 2 = some [a,b]:=rfl
theorem IsArg.bools_ren {H : AH} (hw : WF H) {v : Value} (h : IsArg H (.slice .bool 1) v) : ∃ l : List Bool,SlV (fun b => b < H.next) H v l:=by
 unfold IsArg at h
 rw [if_pos (by simp [Sh.single])] at h
 obtain ⟨l,w,e,h⟩:=Is.list hw (α:=Bool) rfl (fun _ => Is.bool_ren) h
 cases e
 exact ⟨l,h⟩
theorem IsArg.sets_ren {H : AH} (hw : WF H) {v : Value} (h : IsArg H (.slice shSet 2) v) : ∃ l : List SetD,SlV (fun b => b < H.next) H v l:=by
 unfold IsArg at h
 rw [if_pos (by simp [Sh.single])] at h
 obtain ⟨l,w,e,h⟩:=Is.list hw (α:=SetD) rfl (fun _ => Is.set_ren hw) h
 cases e
 exact ⟨l,h⟩
end Go.Abs
namespace Go.Proofs.YtejifalflkbekaaGreatDoor
open Go Go.Abs
end Go.Proofs.YtejifalflkbekaaGreatDoor
