/-
  THE ABSTRACT LAYER (29): a call on closed data leaves all as it was; what is told of it is reckoned on a heap of its own.
-/
import Derived.Test.YtjcncbejnplakaaA28
set_option linter.unusedSimpArgs false
set_option linter.unusedVariables false
namespace Go.Abs
open Go Go.RowKit

/-- Rows of package-level variables that are only read. -/
abbrev GTab := List (Nat × List Value)

def lookG : GTab → Nat → Option Blk
  | [], _ => none
  | (g, cs) :: rest, b => if g = b then some (.row cs 0 false) else lookG rest b

theorem lookG_mem {G : GTab} {b : Nat} {B : Blk} (h : lookG G b = some B) : ∃ cs, (b, cs) ∈ G ∧ B = .row cs 0 false := by
  induction G with
  | nil => cases h
  | cons p G ih =>
    obtain ⟨g, cs⟩ := p
    simp only [lookG] at h
    split at h
    · rename_i hg; subst hg; cases h; exact ⟨cs, by simp, rfl⟩
    · obtain ⟨cs, h1, h2⟩ := ih h; exact ⟨cs, by simp [h1], h2⟩

/-- The heap on which closed data is reckoned. -/
def groundH (n : Nat) (G : GTab) : AH := ⟨lookG G, n⟩

/-- The variables stand there. -/
def GroundA (G : GTab) (H : AH) : Prop := ∀ p ∈ G, H.cells p.1 = some p.2

theorem cells_blk {H : AH} {b : Nat} {cs : List Value} (h : H.cells b = some cs) : ∃ e wr, H.blk b = some (.row cs e wr) := by
  unfold AH.cells at h
  split at h
  · rename_i cs' e wr hb; cases h; exact ⟨e, wr, hb⟩
  · cases h

theorem cells_kept {H H' : AH} (hw : WF H) (hk : Keep [] H H') {b : Nat} {cs : List Value} (h : H.cells b = some cs) : H'.cells b = some cs := by
  obtain ⟨e, wr, hb⟩ := cells_blk h
  exact AH.cells_of (by rw [hk.blk b (hw.lt hb) (by simp)]; exact hb)

theorem GroundA.kept {G : GTab} {H H' : AH} (h : GroundA G H) (hw : WF H) (hk : Keep [] H H') : GroundA G H' := fun p hp => cells_kept hw hk (h p hp)
theorem GroundA.of {G : GTab} {H H' : AH} (h : GroundA G H) (hk : ∀ b, H'.cells b = H.cells b) : GroundA G H' := fun p hp => by rw [hk, h p hp]

/-- Are these constants, each of one of the program's variables? -/
def goodG (n : Nat) (G : GTab) : Bool := G.all fun p => decide (p.1 < n) && p.2.all plain

theorem VRs.plain_eq {ρ : Rho} : ∀ {vs vs' : List Value}, vs.all plain = true → VRs ρ vs vs' → vs' = vs
  | _, _, _, .nil => rfl
  | _, _, hp, .cons h t => by
    simp only [List.all_cons, Bool.and_eq_true] at hp
    rw [h.plain_eq hp.1, t.plain_eq hp.2]

theorem below_mono {B0 B1 : Nat} {w w' : World} (h : Below B1 w w') (hl : B0 ≤ B1) : Below B0 w w' :=
  ⟨h.os, h.tape, h.output, h.size, fun k hk => h.block k (Nat.lt_of_lt_of_le hk hl)⟩

/-- The rows of the variables alone. -/
theorem Sim.ground {P : Program} {B0 : Nat} {ρ : Rho} {H : AH} {w : World} {G : GTab} (hs : Sim P B0 ρ H w) (hg : GroundA G H) (hG : goodG P.globals.size G = true) :
    Sim P w.heap.size (fun b => if b < P.globals.size then ρ b else none) (groundH P.globals.size G) w := by
  simp only [goodG, List.all_eq_true, Bool.and_eq_true, decide_eq_true_eq] at hG
  refine ⟨?_, ?_, ?_, ?_, Nat.le_refl _⟩
  · intro b e he
    split at he
    · rename_i hb; exact ⟨hb, (hs.fresh b e he).2⟩
    · cases he
  · intro b B hB
    obtain ⟨cs, hm, rfl⟩ := lookG_mem hB
    obtain ⟨ty, wr, hblk⟩ := cells_blk (hg _ hm)
    obtain ⟨e, he, c, t, fr, cells', h1, h2, h3, h4, h5⟩ := hs.live _ _ hblk
    have hb := hG _ hm
    refine ⟨e, by simp [hb.1, he], c, t, fr, cells', h1, ?_, h3, h4, fun h => by cases h⟩
    have hp : cs.all plain = true := by simpa using hb.2
    rw [h2.plain_eq hp]
    exact VRs.of_plain hp
  · intro b b' B B' e e' hB hB' _ _ _
    obtain ⟨cs, _, rfl⟩ := lookG_mem hB
    obtain ⟨cs', _, rfl⟩ := lookG_mem hB'
    exact .inr ⟨rfl, rfl⟩
  · intro g hgl
    obtain ⟨e, he, h1, h2⟩ := hs.glob g hgl
    exact ⟨e, by simp [hgl, he], h1, h2⟩

/-- A CALL ON CLOSED DATA leaves all as it was. -/
theorem AFn.closed {P : Program} {f : FuncId} {args : List Value} {H : AH} {G : GTab} {v0 : Value} (h : AFn P f args (groundH P.globals.size G) fun u _ => u = v0) (ha : args.all plain = true) (hv : plain v0 = true)
    (hG : goodG P.globals.size G = true) (hg : GroundA G H) : AFn P f args H fun u H' => u = v0 ∧ H' = H := by
  intro B0 ρ w args' hs hargs
  have hs2 := hs.ground hg hG
  have ha2 : VRs (fun b => if b < P.globals.size then ρ b else none) args args'.toList := by rw [hargs.plain_eq ha]; exact VRs.of_plain ha
  refine (h _ _ _ _ hs2 ha2).mono ?_
  rintro e w' ⟨v', v, H', ρ', rfl, hst, hr, rfl⟩
  obtain rfl := hr.plain_eq hv
  have hsz : w.heap.size ≤ w'.heap.size := hst.ext.below.size
  refine ⟨v', v', H, ρ, rfl, ⟨⟨?_, ?_, hs.inj, hs.glob, Nat.le_trans hs.base hsz⟩, Rho.le_refl _, ⟨below_mono hst.ext.below hs.base, hst.ext.defd, hst.ext.loopd⟩⟩, VR.of_plain hv, rfl, rfl⟩
  · intro b e he; have := hs.fresh b e he; exact ⟨this.1, by omega⟩
  · intro b B hB
    obtain ⟨e, he, hh⟩ := hs.live b B hB
    exact ⟨e, he, hh.keep (Rho.le_refl _) (hst.ext.below.block _ (hs.fresh b e he).2)⟩

theorem groundH_wf {n : Nat} {G : GTab} (hG : goodG n G = true) : WF (groundH n G) := by
  intro b B hB
  obtain ⟨cs, hm, rfl⟩ := lookG_mem hB
  simp only [goodG, List.all_eq_true, Bool.and_eq_true, decide_eq_true_eq] at hG
  exact (hG _ hm).1

/-- What is reckoned. -/
theorem AFn.reckon {P : Program} (hm : P.follows .mixedOrders = true) {T : List (Nat × AFunc)} (hT : TabOk P T) {G : GTab} (k d : Nat) {f : FuncId} {args : List Value} {v0 : Value} {H : AH}
    (hG : goodG P.globals.size G = true) (h : (evF T k d f args (groundH P.globals.size G) 0).map (·.1) = some v0) (ha : args.all plain = true) (hv : plain v0 = true) (hg : GroundA G H) :
    AFn P f args H fun u H' => u = v0 ∧ H' = H := by
  obtain ⟨⟨v, H', lo'⟩, h1, rfl⟩ := opt_map_some h
  obtain ⟨_, _, h2⟩ := evF_sound hm hT d _ _ _ _ _ _ _ (groundH_wf hG) h1
  exact AFn.closed (h2.mono fun u H2 hu => hu.1) ha hv hG hg

end Go.Abs
