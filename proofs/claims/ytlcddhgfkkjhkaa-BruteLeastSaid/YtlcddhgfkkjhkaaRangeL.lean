/-
  Ranges over functions: a round.
-/
import Derived.Test.YtlcddhgfkkjhkaaBrute1
set_option linter.unusedSimpArgs false
set_option linter.unusedVariables false
namespace Go.Abs
open Go
structure LoopF (L : LoopA) (n p d : Nat) (b : ACode) : Prop where
  st : L.state = .ready
  pe : L.pending = none
  pa : L.params = [p]
  asg : L.assign = .region [⟨some d, .mv (.tmp p), none⟩] false
  bo : L.body = b
  n : L.n = n
def busyL (L : LoopA) : LoopA := { L with state := .busy }
theorem yield_round {P : Program} (hm : P.follows .mixedOrders = true) {l n p d : Nat} {L : LoopA} {b : ACode} {v : Value} {H : AH} {Q : Value → AH → Prop} (hL : LoopF L n p d b) (hl : H.blk l = some (.loop L))
    (h : wpC P n b (roundK l Q) (upd (upd L.env p v) d v) (H.set l (.loop (busyL L)))) : AYield P l [v] H Q := by
  refine AYield.intro hm hl (by rw [hL.pa]; rfl) ?_
  rw [hL.pa, hL.asg, hL.bo, hL.n]
  simp only [putAll, wpC_region, wpO_mv, ieval, aval, upd_same, Option.map_some, andThen_some, restK_app, wpO_nil, put_some]
  exact ⟨trivial, L, hl, hL.st, h⟩
theorem LoopF.back {L : LoopA} {n p d : Nat} {b : ACode} (h : LoopF L n p d b) : ({ busyL L with state := .ready, pending := none } : LoopA) = L := by
  have h1 := h.st
  have h2 := h.pe
  cases L
  simp at h1 h2
  subst h1 h2
  rfl
theorem roundK_normal {l : Nat} {L : LoopA} {n p d : Nat} {b : ACode} (hL : LoopF L n p d b) {Q : Value → AH → Prop} {env : Env} {H : AH} (hl : H.blk l = some (.loop (busyL L))) (h : Q (.bool true) (H.set l (.loop L))) : roundK l Q .normal env H :=
  ⟨_, hl, by rw [hL.back]; exact h⟩
theorem rangeK_end {l : Nat} {L : LoopA} {n p d : Nat} {b : ACode} (hL : LoopF L n p d b) {Q : AExit → Env → AH → Prop} {env : Env} {H : AH} (hl : H.blk l = some (.loop L)) (h : ∀ B, Q .normal env (H.set l B)) : rangeK l Q env H := by
  unfold rangeK
  rw [hl]
  simp only [hL.st, hL.pe]
  exact ⟨by simp, h _⟩
end Go.Abs
