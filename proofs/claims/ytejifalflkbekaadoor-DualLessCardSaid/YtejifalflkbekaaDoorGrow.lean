/-
  A call of a mix region that makes blocks and writes none.
-/
import Derived.Test.YtejifalflkbekaaDoorA31
set_option maxRecDepth 100000
set_option linter.unusedVariables false
namespace Go.Proofs.YtejifalflkbekaaDoor
open Go Go.Abs
theorem callM_new {P : Program} {K : Env → AH → Prop} {N : Nat} {rest : List (Nat × AOper × List Nat)} {log : List (Nat × Foot)} {env : Env} {H : AH} {d : Option Nat} {i : Nat} {cf : List Nat} {f : FuncId} {vs : List Value} (X Y : List Nat) (hgood : goodFunc P f = true)
  (hl : late i rest = true) (hm : mind cf log X Y) (hw : WF H) (hX : ∀ b ∈ X,b < H.next) (hY : ∀ b ∈ Y,b < H.next) {Q : Value → AH → Prop}
  (h : ∀ Hx,WF Hx → Hx.next = H.next → (∀ b,b ∉ X → Hx.blk b = H.blk b) → AFn P f vs Hx fun u H' => Q u H' ∧ Keep [] Hx H')
  (hk : ∀ u H' G,WF G → Keep [] H G → G.next = H'.next → (∀ b,H.next ≤ b → G.blk b = H'.blk b) → Q u H' → wpM P K N rest ((i,⟨[],[]⟩) :: log) (put env d u) G) :
  callM P K N rest log env H d i cf (some (.func (.func f) #[] #[])) (some vs):=by
 refine callM_grow (X:=X) (Y:=Y) hl hm (GrowCall.of hgood fun Hx hxn hxb hxw => (h Hx hxw hxn hxb).mono fun u H' ⟨q,k⟩ w' hle => ⟨fun b hb => k.blk b ?_ (by simp),hk u H' _ ?_ ⟨hle,fun b hb _ => ?_⟩ rfl (fun b hb => ?_) q⟩)
 ·rcases hb with hb | hb
  ·have:=hX b hb; omega
  ·have:=hY b hb; omega
 ·intro b B hB
  have hB' : (if b ∈ X then H.blk b else H'.blk b) = some B:=hB
  show b < H'.next
  split at hB'
  ·rename_i hx; have:=hX b hx; omega
  ·exact w' b B hB'
 ·show (if b ∈ X then H.blk b else H'.blk b) = _
  split
  ·rfl
  ·rename_i hx; rw [k.blk b (by omega) (by simp),hxb b hx]
 ·show (if b ∈ X then H.blk b else H'.blk b) = _
  rw [if_neg fun hx => by have:=hX b hx; omega]
end Go.Proofs.YtejifalflkbekaaDoor
