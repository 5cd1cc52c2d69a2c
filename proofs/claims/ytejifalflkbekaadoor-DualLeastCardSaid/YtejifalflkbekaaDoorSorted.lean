/-
  Plain law: lists in order; the list in order of given things is one alone.
-/
import Derived.Test.YtejifalflkbekaaDoorA5
namespace Go.Abs
structure IsOrd {α : Type} (lt : α → α → Bool) : Prop where
 irr : ∀ a,lt a a = false
 trans : ∀ a b c,lt a b = true → lt b c = true → lt a c = true
 tri : ∀ a b,lt a b = false → lt b a = false → a = b
variable {α : Type} {lt : α → α → Bool}
theorem IsOrd.asymm (h : IsOrd lt) {a b : α} (hab : lt a b = true) : lt b a = false:=by
 cases hb : lt b a with
 | false => rfl
 | true => have:=h.trans _ _ _ hab hb; rw [h.irr] at this; exact this.symm
theorem IsOrd.le_trans (h : IsOrd lt) {a b c : α} (h1 : lt b a = false) (h2 : lt c b = false) : lt c a = false:=by
 cases hc : lt c a with
 | false => rfl
 | true =>
  cases hb : lt a b with
  | true => have:=h.trans _ _ _ hc hb; rw [h2] at this; exact this.symm
  | false =>
   have:=h.tri _ _ hb h1
   subst this
   rw [h2] at hc
   exact hc.symm
end Go.Abs
