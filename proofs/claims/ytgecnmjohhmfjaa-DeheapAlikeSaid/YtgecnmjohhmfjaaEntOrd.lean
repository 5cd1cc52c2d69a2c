/-
  Plain law: the entries' order.
-/
import Derived.Test.YtgecnmjohhmfjaaKey
import Derived.Test.YtgecnmjohhmfjaaIordA
namespace Go.Proofs.Ytgecnmjohhmfjaa
open Go Go.Abs
theorem entlt_iff (x y : Ent) : x.lt y = true ↔ (x.b < y.b ∨ (x.b = y.b ∧ (y.d < x.d ∨ (x.d = y.d ∧ (x.s < y.s ∨ (x.s = y.s ∧ x.i < y.i)))))) := by
  unfold Ent.lt ordC keyC
  simp only [orI, cmpI]
  grind
theorem isOrd : IsOrd Ent.lt where
  irr a := by
    have := entlt_iff a a
    cases h : a.lt a with
    | false => rfl
    | true => rw [h] at this; simp at this
  trans a b c h1 h2 := by
    rw [entlt_iff] at *
    omega
  tri a b h1 h2 := by
    have g1 := entlt_iff a b
    have g2 := entlt_iff b a
    rw [h1] at g1
    rw [h2] at g2
    simp only [Bool.false_eq_true, false_iff] at g1 g2
    cases a; cases b
    simp only [Ent.mk.injEq] at *
    omega
end Go.Proofs.Ytgecnmjohhmfjaa
