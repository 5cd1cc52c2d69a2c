/-
  Lists of numbers: what seat E needs.
-/
import Derived.Test.YtejifalflkbekaaDoorRen
import Derived.Test.YtejifalflkbekaaDoorIr18
set_option maxRecDepth 100000
set_option linter.unusedSimpArgs false
set_option linter.unusedVariables false
namespace Go.Proofs.YtejifalflkbekaaDoor
open Go Go.Abs
theorem elems_one {H : AH} {cs : List Value} {t sz : Nat} (h : cs.length = sz) : elemsA (H.alloc (.row cs t true)) sz (.slice (some ⟨H.next,0,none⟩) 1 1) = some cs:=by
 have hc : (H.alloc (.row cs t true)).cells H.next = some cs:=AH.cells_of AH.alloc_blk_new
 simp [elemsA,hc,cut,h]
 rw [← h,List.take_length]
theorem push_int {H H1 : AH} {v : Value} {L : List Int} {S : List Nat} (hw : WF H1) (hA : OwnL (fun _ => False) H1 T_int v L S) (hk : Keep [] H H1) (hS : ∀ b ∈ S,H.next ≤ b) {a : Int} (ha : I64 a) (hl : L.length ≤ 1000) :
  ∃ va vc H2 S',appendA (H1.alloc (.row [.int .i64 a] T_int true)) T_int 1 8 v 1 [.int .i64 a] = some (.slice va (L.length + 1) vc,H2) ∧ WF H2 ∧ OwnL (fun _ => False) H2 T_int (.slice va (L.length + 1) vc) (L ++ [a]) S' ∧ Keep [] H H2 ∧ (∀ b ∈ S',H.next ≤ b) ∧ Keep S H1 H2 ∧ ∀ b ∈ S',b ∈ S ∨ H1.next ≤ b:=by
 obtain ⟨va,vc,Hd,S',p1,hA',kd,wd,i1⟩:=hA.push (q:=fun _ => False) hw (cs:=[.int .i64 a]) (a:=a) ⟨rfl,ha⟩ T_int 8 (fun _ h => h) (fun b hb => hb.elim) (by simp) (by omega) (by omega)
 have hn:=hk.next
 refine ⟨va,vc,Hd,S',p1,wd,hA',hk.trans kd (fun b hb hlt => by have:=hS b hb; omega),fun b hb => ?_,kd,i1⟩
 rcases i1 b hb with h | h
 ·exact hS b h
 ·omega
end Go.Proofs.YtejifalflkbekaaDoor
