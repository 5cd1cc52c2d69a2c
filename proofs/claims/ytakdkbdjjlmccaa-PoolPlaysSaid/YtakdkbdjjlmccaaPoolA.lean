/-
  Pools: what a pool is on the abstract heap.
-/
import Derived.Test.YtakdkbdjjlmccaaA22
set_option linter.unusedSimpArgs false
set_option linter.unusedVariables false
namespace Go.Abs
open Go

/-- The cells of slots. -/
def slotCells : List (Value × Bool) → List Value
  | [] => []
  | (x, u) :: r => x :: .bool u :: slotCells r

theorem slotCells_length (l : List (Value × Bool)) : (slotCells l).length = l.length * 2 := by
  induction l with
  | nil => rfl
  | cons a l ih => obtain ⟨x, u⟩ := a; simp [slotCells, ih]; omega

theorem slotCells_get (l : List (Value × Bool)) (i : Nat) : (slotCells l)[i * 2]? = l[i]?.map (·.1) ∧ (slotCells l)[i * 2 + 1]? = l[i]?.map (fun p => Value.bool p.2) := by
  induction l generalizing i with
  | nil => simp [slotCells]
  | cons a l ih =>
    obtain ⟨x, u⟩ := a
    cases i with
    | zero => simp [slotCells]
    | succ i =>
      have := ih i
      simp only [slotCells, Nat.add_mul, Nat.one_mul, List.getElem?_cons_succ, show i * 2 + 2 = (i * 2 + 1) + 1 from rfl, show (i * 2 + 2) + 1 = (i * 2 + 1 + 1) + 1 from rfl]
      exact this

theorem slotCells_append (l m : List (Value × Bool)) : slotCells (l ++ m) = slotCells l ++ slotCells m := by
  induction l with
  | nil => rfl
  | cons a l ih => obtain ⟨x, u⟩ := a; simp [slotCells, ih]

theorem slotCells_set (l : List (Value × Bool)) (i : Nat) (x : Value) (u : Bool) (h : i < l.length) : over (slotCells l) (i * 2) [x, .bool u] = slotCells (l.set i (x, u)) := by
  induction l generalizing i with
  | nil => simp at h
  | cons a l ih =>
    obtain ⟨y, v⟩ := a
    cases i with
    | zero => simp [slotCells, over]
    | succ i =>
      have := ih i (by simpa using h)
      simp only [slotCells, List.set_cons_succ, ← this, over, Nat.add_mul, Nat.one_mul]
      simp

structure PoolR where
  most : Int
  xs : List (Value × Bool)
  fs : List Int

/-- What a pool is on the heap. -/
def IsPool (tp ts : TypeId) (H : AH) (p : Nat) (R : PoolR) (S : List Nat) : Prop :=
  ∃ sa sc fa fc Ss Sf, H.blk p = some (.row [.int .i64 R.most, .slice sa R.xs.length sc, .slice fa R.fs.length fc] tp true) ∧
    Own H ts 2 (.slice sa R.xs.length sc) R.xs.length (slotCells R.xs) Ss ∧ Own H 3 1 (.slice fa R.fs.length fc) R.fs.length (R.fs.map (.int .i64)) Sf ∧
    S = p :: (Ss ++ Sf) ∧ (p ∉ Ss ∧ p ∉ Sf ∧ ∀ b ∈ Ss, b ∉ Sf)

theorem IsPool.keep {tp ts : TypeId} {H H' : AH} {p : Nat} {R : PoolR} {S : List Nat} (h : IsPool tp ts H p R S) (hk : ∀ b ∈ S, H'.blk b = H.blk b) : IsPool tp ts H' p R S := by
  obtain ⟨sa, sc, fa, fc, Ss, Sf, h1, h2, h3, rfl, h5⟩ := h
  refine ⟨sa, sc, fa, fc, Ss, Sf, by rw [hk p (by simp), h1], h2.keep fun b hb => hk b (by simp [hb]), h3.keep fun b hb => hk b (by simp [hb]), rfl, h5⟩


theorem IsPool.lt {tp ts : TypeId} {H : AH} {p : Nat} {R : PoolR} {S : List Nat} (h : IsPool tp ts H p R S) (hw : WF H) : ∀ b ∈ S, b < H.next := by
  obtain ⟨sa, sc, fa, fc, Ss, Sf, h1, h2, h3, rfl, h5⟩ := h
  have := hw.lt h1
  have := h2.lt hw
  have := h3.lt hw
  grind

/-- A pool of one's own, made behind H0. -/
def MyPool (tp ts : TypeId) (H0 H : AH) (p : Nat) (R : PoolR) : Prop := ∃ S, IsPool tp ts H p R S ∧ (∀ b ∈ S, H0.next ≤ b) ∧ Keep [] H0 H

theorem MyPool.kept {tp ts : TypeId} {H0 H : AH} {p : Nat} {R : PoolR} (h : MyPool tp ts H0 H p R) : Keep [] H0 H := h.choose_spec.2.2

/-- What is known of a pool. -/
structure PoolR.ok (R : PoolR) : Prop where
  few : R.xs.length < 1000000
  free : ∀ i ∈ R.fs, 0 ≤ i ∧ i < R.xs.length
  le : R.fs.length ≤ R.xs.length

def PoolR.full (R : PoolR) : Bool := decide (R.most ≤ R.xs.length - R.fs.length)
/-- The pool behind a Put, and the number. -/
def PoolR.put (R : PoolR) (x : Value) : PoolR × Int :=
  match R.fs.getLast? with
  | none => ({ R with xs := R.xs ++ [(x, true)] }, R.xs.length)
  | some i => ({ R with xs := R.xs.set i.toNat (x, true), fs := R.fs.dropLast }, i)
def PoolR.at (R : PoolR) (i : Int) : Option Value :=
  match (if 0 ≤ i then R.xs[i.toNat]? else none) with
  | some (x, true) => some x
  | _ => none
def PoolR.drop (zero : Value) (R : PoolR) (i : Int) : PoolR := { R with xs := R.xs.set i.toNat (zero, false), fs := R.fs ++ [i] }

end Go.Abs
