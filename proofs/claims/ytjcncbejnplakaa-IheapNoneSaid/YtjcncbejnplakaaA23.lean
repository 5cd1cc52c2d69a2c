/-
  THE ABSTRACT LAYER (23): from a contract on the abstract side to the statement's row: where a call starts, and what it leaves.
-/
import Derived.Test.YtjcncbejnplakaaA22
import Derived.WalkKit
import Derived.ProofKit
import Derived.OpenShut
import Derived.Carry
set_option linter.unusedSimpArgs false
set_option linter.unusedVariables false
namespace Go.Abs
open Go Go.RowKit Go.ChangeShapes

def startR (n : Nat) : Rho := fun b => if b < n then some ⟨b, 0, 0, 0⟩ else none
def startH (n : Nat) : AH := ⟨fun _ => none, n⟩

theorem Sim.start (P : Program) (W : World) (hg : P.globals.size ≤ W.heap.size) : Sim P W.heap.size (startR P.globals.size) (startH P.globals.size) W where
  fresh := fun b e he => by
    simp only [startR] at he
    split at he
    · cases he; rename_i h; exact ⟨h, by show b < _; omega⟩
    · cases he
  live := fun b B hB => by simp [startH] at hB
  inj := fun b b' B B' e e' hB => by simp [startH] at hB
  glob := fun g hg => ⟨_, by simp only [startR, hg, if_true]; rfl, rfl, rfl⟩
  base := Nat.le_refl _

section
variable {H : Type} {enc : TypeId × Value → H} {P : Program}

/-- What a function that turns nothing old leaves. -/
theorem post_below {f : Func} {s : ChangeSpec} {apart fresh handsOn again : Bool} {W W' : World} {args : Array Value} {v : Value} {ds gs : List (DataW H)} {before pa pv : List MemPlace}
    (hW : DataW.Whole enc P f.params.toList s.vars apart W args.toList ds gs before)
    (hres : ∀ (b : Nat) (sp : Nat → Bool) (hd : Bool), DataW.TrodAll enc P W' b sp hd f.resultTypes.toList (v.resultList f.resultTypes.size) (s.fn H (ds ++ gs)).results [])
    (hargs : ∀ sp : Nat → Bool, (∀ p ∈ before, sp p.block = true) → DataW.TrodAll enc P W' 0 sp true f.params.toList args.toList (s.fn H (ds ++ gs)).args pa)
    (hvars : ∀ sp : Nat → Bool, (∀ p ∈ before, sp p.block = true) → DataW.TrodVars enc P W' sp s.vars (s.fn H (ds ++ gs)).vars pv)
    (hps : before = pa ++ pv) (hb : Below W.heap.size W W')
    (hok : ∀ (j : Nat) (t : TypeId) (r : Value), f.resultTypes[j]? = some t → (v.resultList f.resultTypes.size)[j]? = some r → Value.okWide P W' .any 0 t r) :
    s.post enc P f apart fresh handsOn again W args v W' := by
  have hold : ∀ p ∈ before, (fun b => decide (b < W.heap.size)) p.block = true := fun p hp => by simpa using hW.lt p hp
  have hlt : ∀ p ∈ before, p.block < W.heap.size := fun p hp => by simpa using hW.lt p hp
  refine ⟨ds, gs, before, [], pa, pv, hW, hres _ _ _, hargs _ hold, hvars _ hold, World.keptBut_mono (fun p hp => ⟨hp, ?_⟩) (hb.frame (· ∈ before)), fun _ => ?_⟩
  · rw [hps, List.mem_append] at hp
    exact Or.inr hp
  · obtain ⟨_, _, _, _, _, hz, hn⟩ := hW
    refine ⟨hok, _, _, ([] ++ pa) ++ pv, ⟨[] ++ pa, pv, trodAll_append (hargs _ (fun _ _ => rfl)) (hres _ _ _), hvars _ (fun _ _ => rfl), rfl, ?_, ?_⟩, ?_⟩
    · intro b off hp
      have hp' : MemPlace.cell b off ∈ before := by rw [hps]; simpa using hp
      rw [hb.frozen (hlt _ hp')]
      exact hz b off hp'
    · intro ha
      have := hn ha
      rw [hps] at this
      simpa using this
    · intro p hp _
      rw [hps]
      simpa using hp

end

/-- The walk of a statement's function that tells true. -/
theorem AFn.tells {P : Program} {f : FuncId} {args : List Value} {H : AH} {Q : AH → Prop} (h : AFn P f args H fun v H' => v = .bool true ∧ Q H') {ρ : Rho} {w : World} {args' : Array Value} (hs : Sim P w.heap.size ρ H w) (ha : VRs ρ args args'.toList) :
    Calls P f args' w fun e w' => e = .returned (.bool true) ∧ Below w.heap.size w w' :=
  (h.calls hs ha).mono fun e w' ⟨v', v, H', ρ', he, hs', hb, hv, hq, _⟩ => by
    subst hq
    cases hv
    exact ⟨he, hb⟩

end Go.Abs
