/-
  PLAIN LAW of package dual: sets that have all that is missing cost no less than the prices together; there are prices just if there are such sets, and just if some are taken greedily.
-/
import Derived.Test.YtejifalflkbekaaDoorDp2
set_option maxRecDepth 100000
set_option linter.unusedSimpArgs false
set_option linter.unusedVariables false
namespace Go.Abs
open Go Go.Proofs.YtejifalflkbekaaDoor.Bs
/-! ### masks -/
def msk (mask k : Nat) : Bool:=decide (mask / 2 ^ k % 2 = 1)
def wipeM (L : List SetD) (T : List Bool) (b : Nat → Bool) : Nat → List Bool
 | 0 => T
 | k + 1 => if b k then wipe (wipeM L T b k) ((L[k]?).elim [] (·.elems)) else wipeM L T b k
def costM (L : List SetD) (b : Nat → Bool) : Nat → Int
 | 0 => 0
 | k + 1 => if b k then costM L b k + ((L[k]?).elim 0 (·.cost)) else costM L b k
theorem costM_bound {L : List SetD} {n : Nat} {b : Nat → Bool} (hD : DOk n L) : ∀ k,0 ≤ costM L b k ∧ costM L b k ≤ (k : Int) * 2147483648
 | 0 => by simp [costM]
 | k + 1 => by
  have ih:=costM_bound (b:=b) hD k
  unfold costM
  split
  ·cases h : L[k]? with
   | none => simp; omega
   | some s =>
    have:=hD.cost s (List.mem_of_getElem? h)
    simp; omega
  ·omega
theorem wipeM_get {L : List SetD} {n : Nat} {T : List Bool} {b : Nat → Bool} (hD : DOk n L) {j : Nat} : ∀ k,k ≤ L.length → ((wipeM L T b k).getD j false = true ↔ T.getD j false = true ∧ ∀ i (h : i < L.length),i < k → b i = true → hasE L[i] j = false)
 | 0,_ => by simp [wipeM]
 | k + 1,hk => by
  have ih:=wipeM_get (T:=T) (b:=b) hD (j:=j) k (by omega)
  unfold wipeM
  rw [List.getElem?_eq_getElem (show k < L.length by omega)]
  have hE : ∀ e ∈ L[k].elems,0 ≤ e:=fun e he => by have:=(rises_mem (hD.rise _ (List.getElem_mem _)) e he).1; omega
  split
  ·rename_i hb
   show (wipe (wipeM L T b k) L[k].elems).getD j false = true ↔ _
   rw [wipe_get hE,Bool.and_eq_true,ih]
   constructor
   ·rintro ⟨⟨h1,h2⟩,h3⟩
    refine ⟨h1,fun i hi hik hbi => ?_⟩
    rcases Nat.lt_or_ge i k with hh | hh
    ·exact h2 i hi hh hbi
    ·obtain rfl : i = k:=by omega
     unfold hasE; simpa using h3
   ·rintro ⟨h1,h2⟩
    refine ⟨⟨h1,fun i hi hik => h2 i hi (by omega)⟩,?_⟩
    have:=h2 k (by omega) (by omega) hb
    unfold hasE at this
    simpa using this
  ·rename_i hb
   rw [ih]
   constructor
   ·rintro ⟨h1,h2⟩
    refine ⟨h1,fun i hi hik hbi => ?_⟩
    rcases Nat.lt_or_ge i k with hh | hh
    ·exact h2 i hi hh hbi
    ·obtain rfl : i = k:=by omega
     exact absurd hbi hb
   ·rintro ⟨h1,h2⟩
    exact ⟨h1,fun i hi hik => h2 i hi (by omega)⟩
theorem wipeM_zero {L : List SetD} {n : Nat} {T : List Bool} {b : Nat → Bool} (hD : DOk n L) : (wipeM L T b L.length).count true = 0 ↔ ∀ e : Nat,T.getD e false = true → ∃ i,∃ h : i < L.length,b i = true ∧ hasE L[i] e = true:=by
 rw [cnt_zero]
 constructor
 ·intro h e he
  by_cases hc : ∃ i,∃ h : i < L.length,b i = true ∧ hasE L[i] e = true
  ·exact hc
  ·have : (wipeM L T b L.length).getD e false = true:=(wipeM_get hD L.length (Nat.le_refl _)).2 ⟨he,fun i hi _ hb => by
    cases hh : hasE L[i] e with
    | false => rfl
    | true => exact absurd ⟨i,hi,hb,hh⟩ hc⟩
   rw [h e] at this; cases this
 ·intro h j
  cases hb : (wipeM L T b L.length).getD j false with
  | false => rfl
  | true =>
   obtain ⟨h1,h2⟩:=(wipeM_get hD L.length (Nat.le_refl _)).1 hb
   obtain ⟨i,hi,hbi,hh⟩:=h j h1
   rw [h2 i hi hi hbi] at hh; cases hh
/-! ### what the prices tell -/
/-! ### what is taken -/
end Go.Abs
