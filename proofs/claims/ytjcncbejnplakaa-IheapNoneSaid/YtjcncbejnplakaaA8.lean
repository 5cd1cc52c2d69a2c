/-
  THE ABSTRACT LAYER (8): indexes, slices, parts, comparisons.
-/
import Derived.Test.YtjcncbejnplakaaA7
set_option linter.unusedSimpArgs false
set_option linter.unusedVariables false
namespace Go.Abs
open Go Go.RowKit

theorem eqA_at_int {pl : Plan} {k : IntKind} {m : Int} {y : Value} {r : Bool} (h : eqA pl (.int k m) y = some r) : pl = .int := by
  unfold eqA at h
  split at h <;> first | contradiction | rfl
theorem eqA_at_str {pl : Plan} {s : ByteArray} {y : Value} {r : Bool} (h : eqA pl (.string s) y = some r) : pl = .str := by
  unfold eqA at h
  split at h <;> first | contradiction | rfl
theorem planOf_int {P : Program} {d : Nat} {t : TypeId} (h : planOf P (d + 1) t = some .int) : ∃ k, P.underlying t = some (.int k) := by
  simp only [planOf] at h
  split at h <;> first | (cases h; done) | exact ⟨_, ‹_›⟩ | (split at h <;> first | (cases h; done) | (simp at h))
theorem planOf_str {P : Program} {d : Nat} {t : TypeId} (h : planOf P (d + 1) t = some .str) : P.underlying t = some .string := by
  simp only [planOf] at h
  split at h <;> first | (cases h; done) | assumption | (split at h <;> first | (cases h; done) | (simp at h))

section
variable {P : Program} {B0 n : Nat} {ρ : Rho} {H H' : AH} {w : World} {env : Env} {a : Act} {v : Value}
variable {ty : TypeId} {pos : String} {dst : Option Nat} {after : Array Edge} {g : Option (Nat × Bool)} {ρv : Operand → Value}

theorem sound_eqv {op : BinOp} {t yt : TypeId} {x y : Operand} {pl : Plan} {u1 u2 : Value} {r : Bool} (hs : Sim P B0 ρ H w) (hop : op = .eql ∨ op = .neq) (hpl : planOf P 8 t = some pl)
    (hni : ∀ k, P.underlying t ≠ some (.int k)) (hns : P.underlying t ≠ some .string)
    (hg : (eqGuard op t x y (ρv x) (ρv y)).run P w = .ok () w) (h1 : VR ρ u1 (ρv x)) (h2 : VR ρ u2 (ρv y)) (he : eqA pl u1 u2 = some r) :
    Fine P B0 ρ w ((execOp ρv { dst, op := .binOp op t x y yt, type := ty, pos, after, guard := g }).run P w) (.bool (if (op == .neq) then !r else r)) H := by
  refine .pure hs (v' := .bool (if (op == .neq) then !r else r)) ?_ (.bool _)
  have heq := eqA_sound (P := P) (w := w) 8 t pl Op.maxDepth hpl (by decide) h1 h2 he
  have hbin : (binOp op t (ρv x) (ρv y)).run P w = .ok (.bool (if (op == .neq) then !r else r)) w := by
    -- the two values are neither two numbers nor two strings
    have hk : ∀ k m k' m', ¬ (ρv x = .int k m ∧ ρv y = .int k' m') := by
      rintro k m k' m' ⟨hx, hy⟩
      rw [hx] at h1
      cases h1
      have := eqA_at_int he
      subst this
      obtain ⟨k, hk⟩ := planOf_int hpl
      exact hni k hk
    have hst : ∀ s s', ¬ (ρv x = .string s ∧ ρv y = .string s') := by
      rintro s s' ⟨hx, hy⟩
      rw [hx] at h1
      cases h1
      have := eqA_at_str he
      subst this
      exact hns (planOf_str hpl)
    have hfl : ∀ k m k' m', ¬ (ρv x = .float k m ∧ ρv y = .float k' m') := by
      rintro k m k' m' ⟨hx, _⟩
      rw [hx] at h1
      cases h1
    have hcx : ∀ k m m2 k' m' m2', ¬ (ρv x = .complex k m m2 ∧ ρv y = .complex k' m' m2') := by
      rintro k m m2 k' m' m2' ⟨hx, _⟩
      rw [hx] at h1
      cases h1
    generalize ρv x = vx at *
    generalize ρv y = vy at *
    have hq : (Op.equal t vx vy).run P w = .ok r w := heq
    rcases hop with rfl | rfl
    · unfold binOp
      split <;> first
        | (exfalso; exact hk _ _ _ _ ⟨rfl, rfl⟩)
        | (exfalso; exact hst _ _ ⟨rfl, rfl⟩)
        | (exfalso; exact hfl _ _ _ _ ⟨rfl, rfl⟩)
        | (exfalso; exact hcx _ _ _ _ _ _ ⟨rfl, rfl⟩)
        | contradiction
        | (simp only [Sem.run_bind, hq, Result.andThen_ok]; rfl)
    · unfold binOp
      split <;> first
        | (exfalso; exact hk _ _ _ _ ⟨rfl, rfl⟩)
        | (exfalso; exact hst _ _ ⟨rfl, rfl⟩)
        | (exfalso; exact hfl _ _ _ _ ⟨rfl, rfl⟩)
        | (exfalso; exact hcx _ _ _ _ _ _ ⟨rfl, rfl⟩)
        | contradiction
        | (simp only [Sem.run_bind, hq, Result.andThen_ok]; rfl)
  simp only [execOp, Sem.run_bind, hg, Result.andThen_ok, hbin, Sem.run_pure]

end
end Go.Abs
