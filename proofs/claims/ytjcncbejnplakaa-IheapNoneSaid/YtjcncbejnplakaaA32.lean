/-
  THE ABSTRACT LAYER (32): a call that tells a plain value and needs to write nothing old leaves all as it was.
-/
import Derived.Test.YtjcncbejnplakaaA31
set_option linter.unusedSimpArgs false
set_option linter.unusedVariables false
namespace Go.Abs
open Go Go.RowKit

/-- The rows, to be read alone. -/
def AH.ro (H : AH) : AH := { H with blk := fun b => match H.blk b with
  | some (.row cs e _) => some (.row cs e false)
  | _ => none }

/-- The same cells stand there. -/
def SameC (H H0 : AH) : Prop := H0.next = H.next ∧ ∀ b, H0.cells b = H.cells b

theorem AH.ro_same (H : AH) : SameC H H.ro := by
  refine ⟨rfl, fun b => ?_⟩
  unfold AH.cells AH.ro
  simp only
  cases h : H.blk b with
  | none => rfl
  | some B => cases B <;> rfl

theorem Sim.ro {P : Program} {B0 : Nat} {ρ : Rho} {H : AH} {w : World} (h : Sim P B0 ρ H w) : Sim P w.heap.size ρ H.ro w := by
  have hro : ∀ b B, H.ro.blk b = some B → ∃ cs e wr, H.blk b = some (.row cs e wr) ∧ B = .row cs e false := by
    intro b B hB
    unfold AH.ro at hB
    simp only at hB
    split at hB
    · rename_i cs e wr hb; cases hB; exact ⟨_, _, _, hb, rfl⟩
    · cases hB
  refine ⟨h.fresh, ?_, ?_, h.glob, Nat.le_refl _⟩
  · intro b B hB
    obtain ⟨cs, e, wr, hb, rfl⟩ := hro b B hB
    obtain ⟨em, he, c, t, fr, cells', h1, h2, h3, h4, h5⟩ := h.live _ _ hb
    exact ⟨em, he, c, t, fr, cells', h1, h2, h3, h4, fun h => by cases h⟩
  · intro b b' B B' e e' hB hB' _ _ _
    obtain ⟨_, _, _, _, rfl⟩ := hro b B hB
    obtain ⟨_, _, _, _, rfl⟩ := hro b' B' hB'
    exact .inr ⟨rfl, rfl⟩

theorem VR.plainC_eq {ρ : Rho} {v v' : Value} (hp : plainC v = true) (h : VR ρ v v') : v' = v := by
  cases v with
  | agg cs =>
    cases h with
    | agg _ p' hp' h1 _ =>
      simp only [plainC, List.all_eq_true] at hp
      congr 1
      refine (Array.ext (by omega) fun i a b => ?_).symm
      exact ((h1 i a b).plain_eq (hp _ (by simp))).symm
  | tuple cs =>
    cases h with
    | tuple _ p' hp' h1 =>
      simp only [plainC, List.all_eq_true] at hp
      congr 1
      refine (Array.ext (by omega) fun i a b => ?_).symm
      exact ((h1 i a b).plain_eq (hp _ (by simp))).symm
  | _ => exact h.plain_eq hp

/-- A CALL THAT ONLY READS. -/
theorem AFn.calm {P : Program} {f : FuncId} {args : List Value} {H : AH} {v0 : Value} (h : ∀ H0, SameC H H0 → AFn P f args H0 fun u _ => u = v0) (hv : plainC v0 = true) :
    AFn P f args H fun u H' => u = v0 ∧ H' = H := by
  intro B0 ρ w args' hs hargs
  refine (h H.ro H.ro_same _ _ _ _ hs.ro hargs).mono ?_
  rintro e w' ⟨v', v, H', ρ', rfl, hst, hr, rfl⟩
  obtain rfl := hr.plainC_eq hv
  have hsz : w.heap.size ≤ w'.heap.size := hst.ext.below.size
  refine ⟨v', v', H, ρ, rfl, ⟨⟨?_, ?_, hs.inj, hs.glob, Nat.le_trans hs.base hsz⟩, Rho.le_refl _, ⟨below_mono hst.ext.below hs.base, hst.ext.defd, hst.ext.loopd⟩⟩, VR.of_plainC hv, rfl, rfl⟩
  · intro b e he; have := hs.fresh b e he; exact ⟨this.1, by omega⟩
  · intro b B hB
    obtain ⟨e, he, hh⟩ := hs.live b B hB
    exact ⟨e, he, hh.keep (Rho.le_refl _) (hst.ext.below.block _ (hs.fresh b e he).2)⟩

theorem Vw.same {p : Nat → Prop} {H H0 : AH} {sz n : Nat} {v : Value} {cells : List Value} (h : Vw p H sz v n cells) (hs : SameC H H0) : Vw p H0 sz v n cells := by
  refine ⟨h.1, ?_⟩
  rcases h.2 with h | ⟨b, off, sp, cap, cs, h1, h2, h3, h4, h5, hp⟩
  · exact .inl h
  · exact .inr ⟨b, off, sp, cap, cs, h1, h2, h3, by rw [hs.2, h4], h5, hp⟩


theorem Keep.new_set {H H' : AH} {b : Nat} {B : Blk} (hb : H.next ≤ b) (h : Keep [] H H') : Keep [] H (H'.set b B) :=
  ⟨h.next, fun a ha hn => by rw [AH.set_blk_ne (by omega)]; exact h.blk a ha hn⟩
theorem Keep.new_alloc {H H' : AH} {B : Blk} (h : Keep [] H H') : Keep [] H (H'.alloc B) := h.trans' .alloc
theorem Own.fresh {H H' : AH} {elem sz n : Nat} {v : Value} {cells : List Value} {S : List Nat} (h : Own H elem sz v n cells S) (hk : ∀ b ∈ S, H'.blk b = H.blk b) : Own H' elem sz v n cells S := h.keep hk
/-- A slice of one's own that isn't empty. -/
theorem Own.pos {H : AH} {elem sz n : Nat} {v : Value} {cells : List Value} {S : List Nat} (h : Own H elem sz v n cells S) (hn : 0 < n) :
    ∃ b off sp cap cs, v = .slice (some ⟨b, off, sp⟩) n cap ∧ S = [b] ∧ H.blk b = some (.row cs elem true) ∧ H.cells b = some cs ∧ (sp = none ∨ sp = some sz) ∧ ∀ k, k < n * sz → cs[off + k]? = cells[k]? := by
  obtain ⟨b, off, sp, cap, cs, h1, h2, h3, h4, _, _, h7, h8, _⟩ := h.at hn
  exact ⟨b, off, sp, cap, cs, h1, h2, h3, h4, h7, h8⟩
theorem over_one {cells : List Value} {k : Nat} {v : Value} (h : k < cells.length) : over cells k [v] = cells.set k v := by
  rw [List.set_eq_take_append_cons_drop, if_pos h]
  simp [over]

end Go.Abs
