/-
  PLAIN LAW of package knap: what items are worth at most, by a price of their weights.
-/
import Derived.Test.YtllfcbacpoaphaaKord

set_option maxRecDepth 100000
set_option linter.unusedSimpArgs false
set_option linter.unusedVariables false
namespace Go.Abs
structure ItOk (L : List (Int × Int)) (room : Int) : Prop where
 len : L.length ≤ 4096
 room : 0 ≤ room ∧ room ≤ 2147483648
 val : ∀ x ∈ L,(0 ≤ x.1 ∧ x.1 ≤ 2147483648) ∧ 0 ≤ x.2 ∧ x.2 ≤ 2147483648
theorem ItOk.wt {L : List (Int × Int)} {room : Int} (h : ItOk L room) : ∀ x ∈ L,0 ≤ x.2:=fun x hx => (h.val x hx).2.1
/-! ### prices -/
end Go.Abs

set_option maxRecDepth 100000
namespace Go.Abs
theorem itm_get {L : List (Int × Int)} {k : Nat} (h : k < L.length) : itm L k = L[k]:=by
 unfold itm; rw [Int.toNat_natCast,List.getD_eq_getElem?_getD,List.getElem?_eq_getElem h]; rfl
def grK (L : List (Int × Int)) : List Int → Int → List Int
 | [],_ => []
 | k :: o,room => if (itm L k).2 ≤ room then k :: grK L o (room - (itm L k).2) else grK L o room
theorem grK_sub (L : List (Int × Int)) : ∀ (o : List Int) (r : Int),(grK L o r).Sublist o
 | [],_ => .slnil
 | k :: o,r => by
  unfold grK
  split
  ·exact (grK_sub L o _).cons_cons k
  ·exact (grK_sub L o _).cons k
end Go.Abs
